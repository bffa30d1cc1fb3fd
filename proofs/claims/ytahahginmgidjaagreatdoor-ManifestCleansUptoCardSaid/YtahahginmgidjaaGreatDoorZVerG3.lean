/-
  The program's version: Apply, one way of it.
-/
import Derived.Test.YtahahginmgidjaaGreatDoorZMg25
namespace Go.Proofs.YtahahginmgidjaaGreatDoor
open Go.RowKit
set_option linter.unusedVariables false
set_option linter.unusedSimpArgs false

set_option maxRecDepth 1000000 in
set_option maxHeartbeats 16000000 in
theorem ver_apply_adds (S : VerV) (E : EditV) (L : Nat → Value) (av dv : Value) (w : World) (hS : Good S) (hEo : EdOk E) (hnx : I64 S.next) (hv : VerAt w L S.lv) (ha : Lst placeC w av E.add) (hd : Lst i64C w dv E.drop)
    (hSl : ∀ i, i < 4 → (S.lv i).length ≤ 50000000) (hA : E.add.length ≤ 50000000) (hD : E.drop.length ≤ 50000000) (hnums : okNums S E) (hdrops : okDrops (filesOf (flat S)) E.drop) (hbad : ¬ okAdds (filesOf (flat S)) E.next E.add) :
    Calls Tryz.prog 24 #[.agg #[L 0, L 1, L 2, L 3, .int .i64 S.log, .int .i64 S.next, .int .i64 S.seq], .agg #[av, dv, .int .i64 E.log, .int .i64 E.next, .int .i64 E.seq]] w (VApplyPost w S E) := by
  obtain ⟨aa, ac, rfl, hac, han, har⟩ := place_form ha
  obtain ⟨da, dc, rfl, hdc, hdn, hdr⟩ := i64_form hd
  have hmm : ∀ w : World, (Instr.makeMap 167 none).run Tryz.prog w = .ok (.map (some w.heap.size)) (w.alloc (.map #[] 0)) := fun w => run_makeMap 167 w
  have HS := Lib.hid hS
  have HEO := Lib.hid hEo
  have HV := Lib.hid hv
  have HA := Lib.hid ha
  have HD := Lib.hid hd
  have HAR := Lib.hid har
  have HDR := Lib.hid hdr
  have HSL := Lib.hid hSl
  have HNX := Lib.hid hnx
  have HIX := Lib.hid (fun (k : Nat) (hk : k < 4) (w : World) => run_index4 L hk w)
  clear hv ha hd har hdr hS hEo hSl hnx
  obtain ⟨w5, hw5⟩ : ∃ w5, w5 = ((w.alloc (.cells #[L 0, L 1, L 2, L 3, .int .i64 S.log, .int .i64 S.next, .int .i64 S.seq] 29)).alloc (.cells #[.slice aa E.add.length ac, .slice da E.drop.length dc, .int .i64 E.log, .int .i64 E.next, .int .i64 E.seq] 57)).alloc (.cells #[.slice none 0 0, .slice none 0 0, .slice none 0 0, .slice none 0 0, .int .i64 0, .int .i64 0, .int .i64 0] 29) := ⟨_, rfl⟩
  have hc5 : Chg (fun _ => False) w w5 := by rw [hw5]; ((repeat (first | exact Chg.refl _ _ | assumption | refine Chg.drewN ?_ _ | refine Chg.drew ?_ | refine Chg.alloc ?_ _ | refine Chg.setCell ?_ (by first | (simp; done) | (simp; omega) | (intro h; simp at h; omega)) _)))
  have b0 : Blk w5 w.heap.size 29 #[L 0, L 1, L 2, L 3, .int .i64 S.log, .int .i64 S.next, .int .i64 S.seq] := by rw [hw5]; exact ((Blk.new w _ _).alloc _).alloc _
  have b1 : Blk w5 (w.heap.size + 1) 57 #[.slice aa E.add.length ac, .slice da E.drop.length dc, .int .i64 E.log, .int .i64 E.next, .int .i64 E.seq] := by rw [hw5]; exact (Blk.new1 w _ _ _).alloc _
  have b2 : Blk w5 (w.heap.size + 1 + 1) 29 #[.slice none 0 0, .slice none 0 0, .slice none 0 0, .slice none 0 0, .int .i64 0, .int .i64 0, .int .i64 0] := by rw [hw5]; exact Blk.new2 w _ _ _ _
  have hsz5 : w.heap.size + 3 ≤ w5.heap.size := by rw [hw5]; simp
  have hlt50 : w.heap.size < w5.heap.size := by omega
  have hlt51 : w.heap.size + 1 < w5.heap.size := by omega
  have hlt52 : w.heap.size + 1 + 1 < w5.heap.size := by omega
  have k04 := b0.cell 4
  have k05 := b0.cell 5
  have k06 := b0.cell 6
  have k12 := b1.cell 2
  have k13 := b1.cell 3
  have k14 := b1.cell 4
  simp at k04 k05 k06 k12 k13 k14
  have B0 := Lib.hid b0
  have B1 := Lib.hid b1
  have B2 := Lib.hid b2
  have HC5 := Lib.hid hc5
  have HW5 := Lib.hid hw5
  clear hw5 hc5 b0 b1 b2
  have HOKD := Lib.hid hdrops
  clear hdrops
  have HBAD := Lib.hid hbad
  have HNO := Lib.hid (show ¬ okV S E from fun h => hbad h.2.2.1)
  clear hbad
  have l1 : ¬ E.log < S.log := fun h => hnums.1 (.inl h)
  have l2 : ¬ E.next < S.next := fun h => hnums.1 (.inr (.inl h))
  have l3 : ¬ E.seq < S.seq := fun h => hnums.1 (.inr (.inr h))
  have HN := Lib.hid hnums
  clear hnums
  go_enter Tryz.func24, Tryz.ntmps24
  go_upto_region 1 with fail
  rw [← HW5.out]
  go_cut [54] (fun c wx => c = .bool false ∧ w5 = wx)
  case first =>
    cases hq1 : (E.log != 0) <;> cases hq2 : (E.next != 0)
    all_goals
      go_wp2_with fail
      all_goals
        go_meet
        refine ⟨congrArg Value.bool ?_, rfl⟩
        have hr1 := hq1
        have hr2 := hq2
        have hr3 := HN.out.2
        simp at hr1 hr2 hr3
        first | rfl | (exfalso; omega) | (simp; omega)
  case rest =>
    obtain ⟨rfl, rfl⟩ := hcut
    clear l1 l2 l3
    obtain ⟨F, hF⟩ : ∃ F, ((filesOf (flatF S.lv)).mergeSort fun x y => decide (x ≤ y)) = F := ⟨_, rfl⟩
    have hFm : ∀ x, x ∈ F ↔ x ∈ filesOf (flat S) := fun x => by rw [← hF]; exact sorted_files_mem x
    have hFn : F.Nodup := by rw [← hF, (merge_perm _).nodup_iff]; exact HS.out.files
    have hFl : F.length ≤ 200000000 := by
      rw [← hF, (merge_perm _).length_eq]
      exact flatF_le HSL.out
    have hFi : ∀ x ∈ F, I64 x := fun x hx => by
      obtain ⟨p, hp, rfl⟩ := List.mem_map.1 ((hFm x).1 hx)
      obtain ⟨i, hi, m, hm, rfl⟩ := mem_flatF.1 hp
      have := HS.out.ends i hi m hm
      have := HNX.out
      unfold I64 at *
      simp only
      omega
    have k00 := B0.out.cell 0
    have k01 := B0.out.cell 1
    have k02 := B0.out.cell 2
    have k03 := B0.out.cell 3
    simp at k00 k01 k02 k03
    have k00' : (w5.alloc (.map #[] 0)).cell? ⟨w.heap.size, 0, none⟩ = some (L 0) := by rw [World.cell?_alloc_lt _ _ _ (by simp; omega)]; exact k00
    have hfc := fun W (h : VerAt W L S.lv) => ver_files L S.lv S.log S.next S.seq W h (fun i hi => by have := HSL.out i hi; omega)
    unfold FilesPost at hfc
    rw [hF] at hfc
    have HFC := Lib.hid hfc
    have HF := Lib.hid (show ∀ x, x ∈ F ↔ x ∈ filesOf (flat S) from hFm)
    have HFN := Lib.hid hFn
    have HFI := Lib.hid hFi
    clear hF hfc hFm hFn hFi
    go_wp2_with fail
    refine (HFC.out _ ((HV.out.same HC5.out).same (by ((repeat (first | exact Chg.refl _ _ | assumption | refine Chg.drewN ?_ _ | refine Chg.drew ?_ | refine Chg.alloc ?_ _ | refine Chg.setCell ?_ (by first | (simp; done) | (simp; omega) | (intro h; simp at h; omega)) _)))))).mono ?_
    rintro e w6 ⟨fv, rfl, hO6, hk6, hc6⟩
    obtain ⟨fa, fcap, rfl, _, hfn6, hfr6⟩ := i64_form hO6
    have hcm6 := (CntAt.new w5).same hc6
    have hc56 : Chg (fun _ => False) w5 w6 := Chg.then (by ((repeat (first | exact Chg.refl _ _ | assumption | refine Chg.drewN ?_ _ | refine Chg.drew ?_ | refine Chg.alloc ?_ _ | refine Chg.setCell ?_ (by first | (simp; done) | (simp; omega) | (intro h; simp at h; omega)) _)))) hc6
    have hsz6 := hc6.size
    simp at hsz6
    have HFR6 := Lib.hid hfr6
    have HCM6 := Lib.hid hcm6
    have HC56 := Lib.hid hc56
    clear hO6 hk6 hc6 hfr6 hcm6 hc56 k00'
    go_wp2_with fail
    go_loopw [60] (fun i wr => ∃ A R, F = A ++ R ∧ i = .int .i64 A.length ∧ CntAt wr w5.heap.size (fun y => A.count y) ∧ Chg (fun k => k = w5.heap.size) w6 wr) (fun i _ => F.length - (intOf i).toNat)
    case atStart => exact ⟨[], F, rfl, rfl, by simpa using HCM6.out, Chg.refl _ _⟩
    case round =>
      obtain ⟨A, R, hL, rfl, hcm, hcr⟩ := hrel
      have hAl : A.length ≤ F.length := by rw [hL]; simp
      have hszr := hcr.size
      cases R with
      | nil =>
        have hge : ¬ ((A.length : Int) < (F.length : Int)) := by rw [hL]; simp
        have hA0 : A = F := by rw [hL]; simp
        subst hA0
        have hc57 : Chg (fun _ => False) w5 wr := HC56.out.trans hcr fun k hk e => by omega
        have HM := Lib.hid hcm
        have HC57 := Lib.hid hc57
        clear hL hcm hcr hc57
        have k11 := (B1.out.chg HC57.out (by simp)).cell 1
        simp at k11
        have hsz7 := HC57.out.size
        have hm5 := HM.out.lt
        have hlt70 : w.heap.size < wr.heap.size := by omega
        have hlt71 : w.heap.size + 1 < wr.heap.size := by omega
        have hlt72 : w.heap.size + 1 + 1 < wr.heap.size := by omega
        obtain ⟨w7, hw7⟩ : ∃ w7 : World, w7 = wr := ⟨_, rfl⟩
        subst hw7
        go_wp2_with fail
        go_loopw [73] (fun i wr => ∃ D R, E.drop = D ++ R ∧ i = .int .i64 D.length ∧ (∀ x ∈ D, x ∈ A) ∧ D.Nodup ∧ CntAt wr w7.heap.size (fun y => D.count y) ∧ Chg (fun _ => False) w7 wr) (fun i _ => E.drop.length - (intOf i).toNat)
        case atStart => exact ⟨[], E.drop, rfl, rfl, by simp, by simp, by simpa using CntAt.new w7, by ((repeat (first | exact Chg.refl _ _ | assumption | refine Chg.drewN ?_ _ | refine Chg.drew ?_ | refine Chg.alloc ?_ _ | refine Chg.setCell ?_ (by first | (simp; done) | (simp; omega) | (intro h; simp at h; omega)) _)))⟩
        case round =>
          obtain ⟨D, R, hL, rfl, hin, hnd, hcd, hcr⟩ := hrel
          have hAl : D.length ≤ E.drop.length := by rw [hL]; simp
          have hszr := hcr.size
          cases R with
          | nil =>
            have hge : ¬ ((D.length : Int) < (E.drop.length : Int)) := by rw [hL]; simp
            have hD0 : D = E.drop := by rw [hL]; simp
            subst hD0
            have hok : okDrops (filesOf (flat S)) E.drop := ⟨fun f hf => (HF.out f).1 (hin f hf), hnd⟩
            have HCD := Lib.hid hcd
            have HC78 := Lib.hid hcr
            clear hL hin hnd hcd hcr hok
            obtain ⟨w8, hw8⟩ : ∃ w8 : World, w8 = wr := ⟨_, rfl⟩
            subst hw8
            have hc58 := HC57.out.then HC78.out
            have k12 := (B1.out.chg hc58 (by simp)).cell 2
            have k13 := (B1.out.chg hc58 (by simp)).cell 3
            have k14 := (B1.out.chg hc58 (by simp)).cell 4
            have k00 := (B0.out.chg hc58 (by simp)).cell 0
            have k01 := (B0.out.chg hc58 (by simp)).cell 1
            have k02 := (B0.out.chg hc58 (by simp)).cell 2
            have k03 := (B0.out.chg hc58 (by simp)).cell 3
            simp at k12 k13 k14 k00 k01 k02 k03
            have hsz8 := hc58.size
            have hd7 := HCD.out.lt
            have hlt80 : w.heap.size < w8.heap.size := by omega
            have hlt81 : w.heap.size + 1 < w8.heap.size := by omega
            have hlt82 : w.heap.size + 1 + 1 < w8.heap.size := by omega
            have HC58 := Lib.hid hc58
            clear hc58 hszr
            go_wp2_with fail
            go_loopw [102] (fun i wr => ∃ (k : Nat) (Lo : Nat → Value), k ≤ 4 ∧ i = .int .i64 k ∧ OutAt wr w8.heap.size w8.heap.size Lo (keptUp E.drop S.lv k []) E.log E.next E.seq ∧ Chg (fun _ => False) w8 wr) (fun i _ => 4 - (intOf i).toNat)
            case atStart => exact ⟨0, fun _ => .slice none 0 0, by omega, rfl, OutAt.made w8 _ _ _ _ (fun i hi => by simp [keptUp, kept]) _ (by (first | exact Blk.new _ _ _ | exact Blk.new1 _ _ _ _ | exact Blk.new2 _ _ _ _ _ | exact Blk.drew (Blk.new _ _ _) | exact Blk.drew (Blk.new1 _ _ _ _) | exact Blk.drew (Blk.new2 _ _ _ _ _) | exact Blk.drew (Blk.drew (Blk.new _ _ _)) | exact Blk.drewN (Blk.new _ _ _) _ | exact Blk.drewN (Blk.new1 _ _ _ _) _)), by ((repeat (first | exact Chg.refl _ _ | assumption | refine Chg.drewN ?_ _ | refine Chg.drew ?_ | refine Chg.alloc ?_ _ | refine Chg.setCell ?_ (by first | (simp; done) | (simp; omega) | (intro h; simp at h; omega)) _)))⟩
            case round =>
              obtain ⟨k, Lo, hk4, rfl, hout, hcr⟩ := hrel
              have hszr8 := hcr.size
              by_cases hlt : k < 4
              · have hix := HIX.out k hlt
                obtain ⟨la, lc, hLk, hlc, hln, hread⟩ := meta_form (HV.out k hlt)
                rw [hLk] at hix
                have hnk := HSL.out k hlt
                have hltI : (k : Int) < 4 := by omega
                have hge : (0 : Int) ≤ (k : Int) := by omega
                have HR := Lib.hid hread
                have HOUT := Lib.hid hout
                have HCR := Lib.hid hcr
                obtain ⟨wo, hwo⟩ : ∃ wo : World, wo = wr := ⟨_, rfl⟩
                subst hwo
                clear hread hLk hout hcr
                go_wp2_with fail
                go_loopw [108] (fun i wr => ∃ (A R : List MetaV) (Lo : Nat → Value), S.lv k = A ++ R ∧ i = .int .i64 A.length ∧ OutAt wr w8.heap.size w8.heap.size Lo (keptUp E.drop S.lv k A) E.log E.next E.seq ∧ Chg (fun _ => False) w8 wr) (fun i _ => (S.lv k).length - (intOf i).toNat)
                case atStart => exact ⟨[], S.lv k, Lo, rfl, rfl, HOUT.out, HCR.out⟩
                case round =>
                  obtain ⟨T, R, Lo2, hL, rfl, hout, hcr⟩ := hrel
                  have hAl : T.length ≤ (S.lv k).length := by rw [hL]; simp
                  have hszr9 := hcr.size
                  cases R with
                  | nil =>
                    have hge2 : ¬ ((T.length : Int) < ((S.lv k).length : Int)) := by rw [hL]; simp
                    have hT : keptUp E.drop S.lv k T = keptUp E.drop S.lv (k + 1) [] := by rw [← keptUp_next, hL]; simp
                    rw [hT] at hout
                    have HOUT2 := Lib.hid hout
                    have HCR2 := Lib.hid hcr
                    clear hL hT hout hcr
                    go_wp2_with fail
                    go_roundw
                    case rel => exact ⟨k + 1, Lo2, by omega, by go_num, HOUT2.out, HCR2.out⟩
                    case measure => simp [intOf]; omega
                  | cons x B =>
                    obtain ⟨b, rfl, hb, _, z0, z1, z2, z3⟩ := HR.out T x B hL
                    have hc0r := HC5.out.then (HC58.out.then hcr)
                    have z0' := (hc0r.cell (p := ⟨b, T.length * 4, none⟩) hb (by simp)).trans z0
                    have z1' := (hc0r.cell (p := ⟨b, T.length * 4 + 1, none⟩) hb (by simp)).trans z1
                    have z2' := (hc0r.cell (p := ⟨b, T.length * 4 + 2, none⟩) hb (by simp)).trans z2
                    have z3' := (hc0r.cell (p := ⟨b, T.length * 4 + 3, none⟩) hb (by simp)).trans z3
                    have hxm : x ∈ S.lv k := by rw [hL]; simp
                    have hxi : I64 x.file := by
                      have := HS.out.ends k hlt x hxm
                      have := HNX.out
                      unfold I64 at *
                      omega
                    have hlt2 : (T.length : Int) < ((S.lv k).length : Int) := by rw [hL]; simp; omega
                    have hge2 : (0 : Int) ≤ (T.length : Int) := by omega
                    have hL2 : S.lv k = (T ++ [x]) ++ B := by rw [hL]; simp
                    have HL2 := Lib.hid hL2
                    have hblt : b < wr.heap.size := by have := hc0r.size; omega
                    have hlk := ((HCD.out.same hcr).same (show Chg (fun _ => False) wr (wr.alloc (.cells #[.int .i64 x.file, .int .i64 x.size, .string x.lo, .string x.hi] 130)) by ((repeat (first | exact Chg.refl _ _ | assumption | refine Chg.drewN ?_ _ | refine Chg.drew ?_ | refine Chg.alloc ?_ _ | refine Chg.setCell ?_ (by first | (simp; done) | (simp; omega) | (intro h; simp at h; omega)) _))))).look hxi
                    have hdc := nodup_count HOKD.out.2 x.file
                    rw [hdc] at hlk
                    have HCR2 := Lib.hid hcr
                    clear hL hL2 hxm hc0r z0 z1 z2 z3 hcr hdc
                    by_cases hxD : x.file ∈ E.drop
                    · rw [if_pos hxD] at hlk
                      have hlk' : (Instr.lookup 167 (.map (some w7.heap.size)) (.int .i64 x.file) false).run Tryz.prog (wr.alloc (.cells #[.int .i64 x.file, .int .i64 x.size, .string x.lo, .string x.hi] 130)) = .ok (.int .i64 1) (wr.alloc (.cells #[.int .i64 x.file, .int .i64 x.size, .string x.lo, .string x.hi] 130)) := hlk
                      have hsk := keptUp_skip E.drop S.lv k T x hxD
                      rw [← hsk] at hout
                      have HOUT2 := Lib.hid hout
                      clear hlk hsk hout hxD
                      go_wp2_with fail
                      go_roundw
                      case rel => exact ⟨T ++ [x], B, Lo2, HL2.out, by simp, HOUT2.out.same (by ((repeat (first | exact Chg.refl _ _ | assumption | refine Chg.drewN ?_ _ | refine Chg.drew ?_ | refine Chg.alloc ?_ _ | refine Chg.setCell ?_ (by first | (simp; done) | (simp; omega) | (intro h; simp at h; omega)) _)))), by have := HCR2.out; ((repeat (first | exact Chg.refl _ _ | assumption | refine Chg.drewN ?_ _ | refine Chg.drew ?_ | refine Chg.alloc ?_ _ | refine Chg.setCell ?_ (by first | (simp; done) | (simp; omega) | (intro h; simp at h; omega)) _)))⟩
                      case measure => simp [intOf]; omega
                    · rw [if_neg hxD] at hlk
                      have hlk' : (Instr.lookup 167 (.map (some w7.heap.size)) (.int .i64 x.file) false).run Tryz.prog (wr.alloc (.cells #[.int .i64 x.file, .int .i64 x.size, .string x.lo, .string x.hi] 130)) = .ok (.int .i64 0) (wr.alloc (.cells #[.int .i64 x.file, .int .i64 x.size, .string x.lo, .string x.hi] 130)) := hlk
                      have hpu := keptUp_push E.drop S.lv k T x hxD
                      have hok := hout.at_ k hlt
                      obtain ⟨K, hK⟩ : ∃ K, keptUp E.drop S.lv k T k = K := ⟨_, rfl⟩
                      have hKl : K.length ≤ 50000000 := by
                        rw [← hK, keptUp_at]
                        have : (kept E.drop T).length ≤ T.length := List.length_filter_le _ _
                        omega
                      rw [hK] at hok hpu
                      obtain ⟨oa, oc, hLo, _, _, _⟩ := meta_form hok
                      have g0 := hout.cell hlt
                      have fg0 := hout.blk.frozen k
                      have hne := hout.ne_ hlt
                      have hglt := hout.blk.lt
                      rw [hLo] at g0 hok hne
                      have HOUT2 := Lib.hid hout
                      have HPU := Lib.hid hpu
                      have HO := Lib.hid hok
                      have HNE := Lib.hid hne
                      have HLO := Lib.hid hLo
                      have HK := Lib.hid hK
                      clear hlk hpu hok hout hne hLo hK hxD
                      go_wp2_with fail
                      go_region_law ((refine step_lst_app metaOk _ (by rfl) _ _ (by rfl) K (.slice oa K.length oc) x (by rfl) (HO.out.same (by ((repeat (first | exact Chg.refl _ _ | assumption | refine Chg.drewN ?_ _ | refine Chg.drew ?_ | refine Chg.alloc ?_ _ | refine Chg.setCell ?_ (by first | (simp; done) | (simp; omega) | (intro h; simp at h; omega)) _))))) _ (by rfl) (by omega) (by (first | exact Blk.new _ _ _ | exact Blk.new1 _ _ _ _ | exact Blk.new2 _ _ _ _ _ | exact Blk.drew (Blk.new _ _ _) | exact Blk.drew (Blk.new1 _ _ _ _) | exact Blk.drew (Blk.new2 _ _ _ _ _) | exact Blk.drew (Blk.drew (Blk.new _ _ _)) | exact Blk.drewN (Blk.new _ _ _) _ | exact Blk.drewN (Blk.new1 _ _ _ _) _)) ?_; intro v' w4 hO4 hg4 hb4; obtain ⟨a4, p4, rfl, _, _, _⟩ := meta_form hO4; have hg4' : Chg (fun k => (Value.slice oa K.length oc).ownBlock = some k) wr w4 := Chg.then (by ((repeat (first | exact Chg.refl _ _ | assumption | refine Chg.drewN ?_ _ | refine Chg.drew ?_ | refine Chg.alloc ?_ _ | refine Chg.setCell ?_ (by first | (simp; done) | (simp; omega) | (intro h; simp at h; omega)) _)))) hg4; have f4 := (hg4'.frozen (p := ⟨w8.heap.size, k, none⟩) hglt HNE.out).trans fg0; have c4 := (hg4'.cell (p := ⟨w8.heap.size, k, none⟩) hglt HNE.out).trans g0; have hb4' : ∀ k, (Value.slice a4 _ p4).ownBlock = some k → (Value.slice oa K.length oc).ownBlock = some k ∨ wr.heap.size ≤ k := fun k hk => (hb4 k hk).imp id (fun e => by simp at e; omega); have HO4 := Lib.hid hO4; have HG4 := Lib.hid hg4'; have HB4 := Lib.hid hb4'; clear hO4 hg4 hb4 hb4' hg4'))
                      all_goals
                        obtain ⟨n4, hn0⟩ : ∃ n4, K.length + 1 = n4 := ⟨_, rfl⟩
                        have hn4 : (K ++ [x]).length = n4 := by rw [List.length_append, List.length_singleton]; exact hn0
                        rw [hn0]
                        have hput := HOUT2.out.push (i := k) hlt (by omega) (v' := .slice a4 n4 p4) (x := x) (w4 := w4) (by rw [HK.out, ← hn4]; exact HO4.out) (by rw [HLO.out]; exact HG4.out) (by rw [HLO.out, ← hn4]; exact HB4.out)
                        rw [HK.out, HPU.out] at hput
                        obtain ⟨hout5, hc5'⟩ := hput
                        have hcr5 : Chg (fun _ => False) w8 (w4.setCell ⟨w8.heap.size, k, none⟩ (.slice a4 n4 p4)) := HCR2.out.trans hc5' fun k' hk' e => by
                          rcases e with e | e
                          · omega
                          · have := HOUT2.out.new k hlt k' e; omega
                        have HOUT5 := Lib.hid hout5
                        have HCR5 := Lib.hid hcr5
                        clear hout5 hc5' hcr5 f4 c4 hn4 hn0
                        go_wp2_with fail
                        go_roundw
                        case rel => exact ⟨T ++ [x], B, _, HL2.out, by simp, HOUT5.out, HCR5.out⟩
                        case measure => simp [intOf]; omega
              · have h4 : k = 4 := by omega
                rw [h4] at hout
                have hgeI : ¬ (k : Int) < 4 := by omega
                have HOUT := Lib.hid hout
                have HCR := Lib.hid hcr
                clear hout hcr hlt h4
                obtain ⟨w10, hw10⟩ : ∃ w10 : World, w10 = wr := ⟨_, rfl⟩
                subst hw10
                have k10 := (B1.out.chg (HC58.out.then HCR.out) (by simp)).cell 0
                simp at k10
                go_wp2_with fail
                go_loopw [132] (fun i wr => ∃ (T R : List PlaceV) (Lo : Nat → Value), E.add = T ++ R ∧ i = .int .i64 T.length ∧ OutAt wr w8.heap.size w8.heap.size Lo (addUp E.drop S.lv T) E.log E.next E.seq ∧ CntAt wr w5.heap.size (fun y => (A ++ filesOf T).count y) ∧ (∀ p ∈ T, goodP E.next p ∧ p.m.file ∉ A) ∧ (filesOf T).Nodup ∧ Chg (fun k => k = w5.heap.size) w8 wr) (fun i _ => E.add.length - (intOf i).toNat)
                case atStart =>
                  refine ⟨[], E.add, Lo, rfl, rfl, by rw [addUp_nil]; exact HOUT.out, ?_, by simp, by simp [filesOf], HCR.out.mono (by simp)⟩
                  have := (HM.out.same HC78.out).same HCR.out
                  simpa [filesOf] using this
                case round =>
                  obtain ⟨T, R, Lo2, hL, rfl, hout, hcm, hgd, hnd, hcr⟩ := hrel
                  have hAl : T.length ≤ E.add.length := by rw [hL]; simp
                  have hcr5 : Chg (fun _ => False) w5 wr := HC58.out.trans hcr fun k hk e => by omega
                  have hszr9 := hcr.size
                  cases R with
                  | nil =>
                    have hge2 : ¬ ((T.length : Int) < (E.add.length : Int)) := by rw [hL]; simp
                    have hT : T = E.add := by rw [hL]; simp
                    subst hT
                    exact absurd ⟨fun p hp => ⟨(hgd p hp).1, fun h => (hgd p hp).2 ((HF.out _).2 h)⟩, hnd⟩ HBAD.out
                  | cons x B =>
                    obtain ⟨b, rfl, hb, _, z0, z1, z2, z3, z4⟩ := HAR.out T x B hL
                    have hc0r := HC5.out.then hcr5
                    have z0' := (hc0r.cell (p := ⟨b, T.length * 5, none⟩) hb (by simp)).trans z0
                    have z1' := (hc0r.cell (p := ⟨b, T.length * 5 + 1, none⟩) hb (by simp)).trans z1
                    have z2' := (hc0r.cell (p := ⟨b, T.length * 5 + 2, none⟩) hb (by simp)).trans z2
                    have z3' := (hc0r.cell (p := ⟨b, T.length * 5 + 3, none⟩) hb (by simp)).trans z3
                    have z4' := (hc0r.cell (p := ⟨b, T.length * 5 + 4, none⟩) hb (by simp)).trans z4
                    have k13' := (B1.out.chg hcr5 (by simp)).cell 3
                    simp at k13'
                    have hxi : I64 x.m.file := HEO.out.add x (by rw [hL]; simp)
                    have hlt2 : (T.length : Int) < (E.add.length : Int) := by rw [hL]; simp; omega
                    have hge2 : (0 : Int) ≤ (T.length : Int) := by omega
                    have hL2 : E.add = (T ++ [x]) ++ B := by rw [hL]; simp
                    have HL2 := Lib.hid hL2
                    have HL := Lib.hid hL
                    have hblt : b < wr.heap.size := by have := hc0r.size; omega
                    have hltr : w.heap.size + 1 < wr.heap.size := by omega
                    obtain ⟨l, f, s, lo, hi⟩ := x
                    simp only at z0' z1' z2' z3' z4' hxi
                    have h1 := fun W => ver_good ⟨l, f, s, lo, hi⟩ E.next W
                    simp only at h1
                    have hbx := Blk.new wr 132 #[.int .i64 l, .int .i64 f, .int .i64 s, .string lo, .string hi]
                    have HBX := Lib.hid hbx
                    have HOUT2 := Lib.hid hout
                    have HCM := Lib.hid hcm
                    have HGD := Lib.hid hgd
                    have HND := Lib.hid hnd
                    have HCR2 := Lib.hid hcr
                    have HCR5 := Lib.hid hcr5
                    have hTl : T.length ≤ 50000000 := by omega
                    clear hL hL2 hc0r z0 z1 z2 z3 z4 hcr hcr5 hbx hout hcm hgd hnd
                    go_upto_block 9 with fail
                    go_cut [18] (fun p wx => (∀ p ∈ T ++ [⟨l, f, s, lo, hi⟩], goodP E.next p ∧ p.m.file ∉ A) ∧ (filesOf (T ++ [⟨l, f, s, lo, hi⟩])).Nodup ∧ ∃ L', OutAt wx w8.heap.size w8.heap.size L' (addUp E.drop S.lv (T ++ [⟨l, f, s, lo, hi⟩])) E.log E.next E.seq ∧ CntAt wx w5.heap.size (fun y => (A ++ filesOf (T ++ [⟨l, f, s, lo, hi⟩])).count y) ∧ Chg (fun k => k = w5.heap.size) w8 wx)
                    case first =>
                      cases hgb : goodB E.next ⟨l, f, s, lo, hi⟩ with
                      | false =>
                        rw [hgb] at h1
                        have H1 := Lib.hid h1
                        clear hgb h1
                        go_wp2_with fail
                        refine (H1.out _).mono ?_
                        rintro e w9 ⟨rfl, hc9⟩
                        have hcw9 : Chg (fun _ => False) wr w9 := Chg.then (by ((repeat (first | exact Chg.refl _ _ | assumption | refine Chg.drewN ?_ _ | refine Chg.drew ?_ | refine Chg.alloc ?_ _ | refine Chg.setCell ?_ (by first | (simp; done) | (simp; omega) | (intro h; simp at h; omega)) _)))) hc9
                        have hbx9 := HBX.out.chg hc9 (by simp)
                        have hcm9 := HCM.out.same hcw9
                        have j0 := hbx9.cell 0
                        have j1 := hbx9.cell 1
                        simp at j0 j1
                        have HC59 := Lib.hid (HCR5.out.then hcw9)
                        obtain ⟨cx, hcx⟩ : ∃ cx, (A ++ filesOf T).count f = cx := ⟨_, rfl⟩
                        clear hcm9 hbx9 hcw9 hc9 hcx
                        have hbase : Chg (fun _ => False) w5 w9 := HC59.out
                        have hz0 := B2.out.chg hbase (by simp)
                        have x0 := hz0.cell 0
                        have x1 := hz0.cell 1
                        have x2 := hz0.cell 2
                        have x3 := hz0.cell 3
                        have x4 := hz0.cell 4
                        have x5 := hz0.cell 5
                        have x6 := hz0.cell 6
                        have f0 := hz0.frozen 0
                        have f1 := hz0.frozen 1
                        have f2 := hz0.frozen 2
                        have f3 := hz0.frozen 3
                        have f4 := hz0.frozen 4
                        have f5 := hz0.frozen 5
                        have f6 := hz0.frozen 6
                        simp at x0 x1 x2 x3 x4 x5 x6
                        have HZ0 := Lib.hid hz0
                        have HBS := Lib.hid (Chg.then HC5.out hbase)
                        clear hbase hz0
                        go_upto_region 32 with fail
                        go_cut [5] (fun c wx => c = .int .i64 17 ∧ Blk wx (w.heap.size + 1 + 1) 29 #[.slice none 0 0, .slice none 0 0, .slice none 0 0, .slice none 0 0, .int .i64 0, .int .i64 0, .int .i64 0] ∧ Chg (fun _ => False) w wx)
                        case first =>
                          go_wp2_with fail
                          go_meet
                          refine ⟨rfl, ?_, ?_⟩
                          · have := ((((((HZ0.out.set_ 0 (.slice none 0 0)).set_ 1 (.slice none 0 0)).set_ 2 (.slice none 0 0)).set_ 3 (.slice none 0 0)).set_ 4 (.int .i64 0)).set_ 5 (.int .i64 0)).set_ 6 (.int .i64 0)
                            simpa using this
                          · have := HBS.out
                            ((repeat (first | with_reducible exact Chg.refl _ _ | with_reducible assumption | with_reducible refine Chg.drewN ?_ _ | with_reducible refine Chg.drew ?_ | with_reducible refine Chg.alloc ?_ _ | with_reducible refine Chg.setCell ?_ (by first | (simp; done) | (simp; omega) | (intro h; simp at h; omega)) _)))
                        case rest =>
                          obtain ⟨rfl, hz, hcz⟩ := hcut
                          have x0 := hz.cell 0
                          have x1 := hz.cell 1
                          have x2 := hz.cell 2
                          have x3 := hz.cell 3
                          have x4 := hz.cell 4
                          have x5 := hz.cell 5
                          have x6 := hz.cell 6
                          simp at x0 x1 x2 x3 x4 x5 x6
                          have HCZ := Lib.hid hcz
                          clear hz hcz
                          go_wp2_with fail
                          exact bodyPost_ret (v := .tuple #[.agg #[.slice none 0 0, .slice none 0 0, .slice none 0 0, .slice none 0 0, .int .i64 0, .int .i64 0, .int .i64 0], .int .i64 17]) (by simp [results, Tryz.results24, go_sem, x0, x1, x2, x3, x4, x5, x6]) rfl ⟨HCZ.out, .inr ⟨HNO.out, rfl⟩⟩
                      | true =>
                        have hgood : goodP E.next ⟨l, f, s, lo, hi⟩ := of_decide_eq_true hgb
                        rw [hgb] at h1
                        have H1 := Lib.hid h1
                        have HGOOD := Lib.hid hgood
                        clear hgood hgb h1
                        by_cases hf : f ∈ A ++ filesOf T
                        · have hpos : (A ++ filesOf T).count f > 0 := List.count_pos_iff.2 hf
                          have hcle : (A ++ filesOf T).count f ≤ 250000000 := by
                            have := List.count_le_length (a := f) (l := A ++ filesOf T)
                            simp [filesOf] at this ⊢
                            omega
                          go_wp2_with fail
                          refine (H1.out _).mono ?_
                          rintro e w9 ⟨rfl, hc9⟩
                          have hcw9 : Chg (fun _ => False) wr w9 := Chg.then (by ((repeat (first | exact Chg.refl _ _ | assumption | refine Chg.drewN ?_ _ | refine Chg.drew ?_ | refine Chg.alloc ?_ _ | refine Chg.setCell ?_ (by first | (simp; done) | (simp; omega) | (intro h; simp at h; omega)) _)))) hc9
                          have hbx9 := HBX.out.chg hc9 (by simp)
                          have hcm9 := HCM.out.same hcw9
                          have j0 := hbx9.cell 0
                          have j1 := hbx9.cell 1
                          simp at j0 j1
                          have HC59 := Lib.hid (HCR5.out.then hcw9)
                          have hlk9 : (Instr.lookup 167 (.map (some w5.heap.size)) (.int .i64 f) false).run Tryz.prog w9 = .ok (.int .i64 (((A ++ filesOf T).count f : Nat) : Int)) w9 := hcm9.look hxi
                          generalize (A ++ filesOf T).count f = cx at *
                          have hcx : (0 : Int) < (cx : Int) := by omega
                          clear hcm9 hbx9 hcw9 hc9 hpos hf
                          have hbase : Chg (fun _ => False) w5 w9 := HC59.out
                          have hz0 := B2.out.chg hbase (by simp)
                          have x0 := hz0.cell 0
                          have x1 := hz0.cell 1
                          have x2 := hz0.cell 2
                          have x3 := hz0.cell 3
                          have x4 := hz0.cell 4
                          have x5 := hz0.cell 5
                          have x6 := hz0.cell 6
                          have f0 := hz0.frozen 0
                          have f1 := hz0.frozen 1
                          have f2 := hz0.frozen 2
                          have f3 := hz0.frozen 3
                          have f4 := hz0.frozen 4
                          have f5 := hz0.frozen 5
                          have f6 := hz0.frozen 6
                          simp at x0 x1 x2 x3 x4 x5 x6
                          have HZ0 := Lib.hid hz0
                          have HBS := Lib.hid (Chg.then HC5.out hbase)
                          clear hbase hz0
                          go_upto_region 32 with fail
                          go_cut [5] (fun c wx => c = .int .i64 17 ∧ Blk wx (w.heap.size + 1 + 1) 29 #[.slice none 0 0, .slice none 0 0, .slice none 0 0, .slice none 0 0, .int .i64 0, .int .i64 0, .int .i64 0] ∧ Chg (fun _ => False) w wx)
                          case first =>
                            go_wp2_with fail
                            go_meet
                            refine ⟨rfl, ?_, ?_⟩
                            · have := ((((((HZ0.out.set_ 0 (.slice none 0 0)).set_ 1 (.slice none 0 0)).set_ 2 (.slice none 0 0)).set_ 3 (.slice none 0 0)).set_ 4 (.int .i64 0)).set_ 5 (.int .i64 0)).set_ 6 (.int .i64 0)
                              simpa using this
                            · have := HBS.out
                              ((repeat (first | with_reducible exact Chg.refl _ _ | with_reducible assumption | with_reducible refine Chg.drewN ?_ _ | with_reducible refine Chg.drew ?_ | with_reducible refine Chg.alloc ?_ _ | with_reducible refine Chg.setCell ?_ (by first | (simp; done) | (simp; omega) | (intro h; simp at h; omega)) _)))
                          case rest =>
                            obtain ⟨rfl, hz, hcz⟩ := hcut
                            have x0 := hz.cell 0
                            have x1 := hz.cell 1
                            have x2 := hz.cell 2
                            have x3 := hz.cell 3
                            have x4 := hz.cell 4
                            have x5 := hz.cell 5
                            have x6 := hz.cell 6
                            simp at x0 x1 x2 x3 x4 x5 x6
                            have HCZ := Lib.hid hcz
                            clear hz hcz
                            go_wp2_with fail
                            exact bodyPost_ret (v := .tuple #[.agg #[.slice none 0 0, .slice none 0 0, .slice none 0 0, .slice none 0 0, .int .i64 0, .int .i64 0, .int .i64 0], .int .i64 17]) (by simp [results, Tryz.results24, go_sem, x0, x1, x2, x3, x4, x5, x6]) rfl ⟨HCZ.out, .inr ⟨HNO.out, rfl⟩⟩
                        · have hfA : f ∉ A := fun h => hf (List.mem_append.2 (.inl h))
                          have hfT : f ∉ filesOf T := fun h => hf (List.mem_append.2 (.inr h))
                          clear hf
                          have hgoodp := HGOOD.out
                          obtain ⟨p0, p1, _⟩ := hgoodp
                          simp only at p0 p1
                          obtain ⟨ln, rfl⟩ := Int.eq_ofNat_of_zero_le p0
                          have hln : ln < 4 := by omega
                          have hgd2 : ∀ p ∈ T ++ [⟨(ln : Int), f, s, lo, hi⟩], goodP E.next p ∧ p.m.file ∉ A := fun p hp => by
                            rcases List.mem_append.1 hp with h | h
                            · exact HGD.out p h
                            · simp at h; subst h; exact ⟨HGOOD.out, hfA⟩
                          have hnd2 : (filesOf (T ++ [⟨(ln : Int), f, s, lo, hi⟩])).Nodup := by
                            show (List.map _ _).Nodup
                            rw [List.map_append, List.nodup_append]
                            refine ⟨HND.out, by simp, fun a ha c hc e => ?_⟩
                            simp at hc; subst hc; subst e
                            exact hfT ha
                          have hcnt : (A ++ filesOf T).count f = 0 := by rw [List.count_eq_zero, List.mem_append]; exact fun h => h.elim hfA hfT
                          have hfo : (A ++ filesOf T) ++ [f] = A ++ filesOf (T ++ [⟨(ln : Int), f, s, lo, hi⟩]) := by simp [filesOf]
                          have HGD2 := Lib.hid hgd2
                          have HND2 := Lib.hid hnd2
                          have HCNT := Lib.hid hcnt
                          have HFO := Lib.hid hfo
                          have HLN := Lib.hid hln
                          clear hgd2 hnd2 hcnt hfo hfA hfT p0 p1
                          go_wp2_with fail
                          refine (H1.out _).mono ?_
                          rintro e w9 ⟨rfl, hc9⟩
                          have hcw9 : Chg (fun _ => False) wr w9 := Chg.then (by ((repeat (first | exact Chg.refl _ _ | assumption | refine Chg.drewN ?_ _ | refine Chg.drew ?_ | refine Chg.alloc ?_ _ | refine Chg.setCell ?_ (by first | (simp; done) | (simp; omega) | (intro h; simp at h; omega)) _)))) hc9
                          have hbx9 := HBX.out.chg hc9 (by simp)
                          have hcm9 := HCM.out.same hcw9
                          have hlk9 := hcm9.look hxi
                          obtain ⟨w11, hup, hcm11, hc11, hs11⟩ := hcm9.bump hxi
                          rw [bump_count, HFO.out] at hcm11
                          have hG5 : w5.heap.size < w8.heap.size := by omega
                          have hout11 := (HOUT2.out.same hcw9).chgS hc11 (by omega) (fun i hi b hb e => by have := HOUT2.out.new i hi b hb; omega)
                          have hbx11 := hbx9.chg hc11 (by omega)
                          have j0 := hbx9.cell 0
                          have j1 := hbx9.cell 1
                          have i0 := hbx11.cell 0
                          have i1 := hbx11.cell 1
                          have i2 := hbx11.cell 2
                          have i3 := hbx11.cell 3
                          have i4 := hbx11.cell 4
                          simp at j0 j1 i0 i1 i2 i3 i4
                          have hlk' : (Instr.lookup 167 (.map (some w5.heap.size)) (.int .i64 f) false).run Tryz.prog w9 = .ok (.int .i64 0) w9 := by
                            have := hlk9
                            simp only [HCNT.out] at this
                            exact this
                          have hup' : (Instr.mapUpdate 167 (.map (some w5.heap.size)) (.int .i64 f) (.int .i64 1)).run Tryz.prog w9 = .ok () w11 := by
                            have := hup
                            simp only [HCNT.out] at this
                            exact this
                          have hok := hout11.at_ ln HLN.out
                          obtain ⟨K, hK⟩ : ∃ K, addUp E.drop S.lv T ln = K := ⟨_, rfl⟩
                          have hKl : K.length ≤ 100000000 := by
                            rw [← hK]
                            exact addUp_len E.drop S.lv T ln (by have := HSL.out ln HLN.out; exact this) hTl
                          have hpu := addUp_push E.drop S.lv T ln ⟨f, s, lo, hi⟩
                          rw [hK] at hok hpu
                          obtain ⟨oa, oc, hLo, _, _, _⟩ := meta_form hok
                          have g0 := hout11.cell HLN.out
                          have fg0 := hout11.blk.frozen ln
                          have hne := hout11.ne_ HLN.out
                          have hglt := hout11.blk.lt
                          rw [hLo] at g0 hok hne
                          have hnb : (Value.slice oa K.length oc).ownBlock ≠ some wr.heap.size := fun e => by
                            obtain ⟨cs, hb⟩ := hok.typed e
                            exact hb.ne_ hbx11 (by decide) rfl
                          have HNB := Lib.hid hnb
                          have hltI2 : (ln : Int) < 4 := by have := HLN.out; omega
                          have hgeI2 : (0 : Int) ≤ (ln : Int) := by omega
                          have hwx : wr.heap.size < w11.heap.size := by have := hbx11.lt; omega
                          have hsz11 : w8.heap.size ≤ w11.heap.size := by omega
                          have hc511 : Chg (fun k => k = w5.heap.size) w8 w11 := (HCR2.out.trans hcw9 (by simp)).then hc11
                          have HOUT3 := Lib.hid hout11
                          have HPU := Lib.hid hpu
                          have HO := Lib.hid hok
                          have HNE := Lib.hid hne
                          have HLO := Lib.hid hLo
                          have HK := Lib.hid hK
                          have HCM11 := Lib.hid hcm11
                          have HC511 := Lib.hid hc511
                          clear hlk9 hup hcm11 hc11 hs11 hout11 hbx11 hbx9 hcm9 hcw9 hc9 hok hpu hne hnb hLo hK hc511
                          go_wp2_with fail
                          go_region_law ((refine step_lst_app metaOk _ (by rfl) _ _ (by rfl) K (.slice oa K.length oc) ⟨f, s, lo, hi⟩ (by rfl) (HO.out.same (by ((repeat (first | exact Chg.refl _ _ | assumption | refine Chg.drewN ?_ _ | refine Chg.drew ?_ | refine Chg.alloc ?_ _ | refine Chg.setCell ?_ (by first | (simp; done) | (simp; omega) | (intro h; simp at h; omega)) _))))) _ (by rfl) (by omega) (by (first | exact Blk.new _ _ _ | exact Blk.new1 _ _ _ _ | exact Blk.new2 _ _ _ _ _ | exact Blk.drew (Blk.new _ _ _) | exact Blk.drew (Blk.new1 _ _ _ _) | exact Blk.drew (Blk.new2 _ _ _ _ _) | exact Blk.drew (Blk.drew (Blk.new _ _ _)) | exact Blk.drewN (Blk.new _ _ _) _ | exact Blk.drewN (Blk.new1 _ _ _ _) _)) ?_; intro v' w4 hO4 hg4 hb4; obtain ⟨a4, p4, rfl, _, _, _⟩ := meta_form hO4; have hg4' : Chg (fun k => (Value.slice oa K.length oc).ownBlock = some k) w11 w4 := Chg.then (by ((repeat (first | exact Chg.refl _ _ | assumption | refine Chg.drewN ?_ _ | refine Chg.drew ?_ | refine Chg.alloc ?_ _ | refine Chg.setCell ?_ (by first | (simp; done) | (simp; omega) | (intro h; simp at h; omega)) _)))) hg4; have f4 := (hg4'.frozen (p := ⟨w8.heap.size, ln, none⟩) hglt HNE.out).trans fg0; have c4 := (hg4'.cell (p := ⟨w8.heap.size, ln, none⟩) hglt HNE.out).trans g0; have c5 := (hg4'.cell (p := ⟨wr.heap.size, 0, none⟩) hwx HNB.out).trans i0; have hb4' : ∀ k, (Value.slice a4 _ p4).ownBlock = some k → (Value.slice oa K.length oc).ownBlock = some k ∨ w11.heap.size ≤ k := fun k hk => (hb4 k hk).imp id (fun e => by simp at e; omega); rw [List.length_append, List.length_singleton] at hO4 hb4'; have HALL := Lib.hid (push_all HOUT3.out HLN.out hsz11 HK.out HLO.out hO4 hg4' hb4' HPU.out HCM11.out hG5 hG5 HC511.out (Nat.le_refl _) (Nat.le_refl _)); clear hO4 hg4 hb4 hb4' hg4'))
                          all_goals
                            go_wp2_with fail
                            go_meet
                            exact ⟨HGD2.out, HND2.out, HALL.out⟩
                    case rest =>
                      obtain ⟨hgd2, hnd2, L', hout5, hcm5, hcr5⟩ := hcut
                      have HGD2 := Lib.hid hgd2
                      have HND2 := Lib.hid hnd2
                      have HOUT5 := Lib.hid hout5
                      have HCM5 := Lib.hid hcm5
                      have HCRF := Lib.hid hcr5
                      clear hout5 hcr5 hcm5 hgd2 hnd2 h1
                      go_wp2_with fail
                      go_roundw
                      case rel => exact ⟨T ++ [⟨l, f, s, lo, hi⟩], B, _, HL2.out, by simp, HOUT5.out, HCM5.out, HGD2.out, HND2.out, HCRF.out⟩
                      case measure => simp [intOf]; omega
          | cons x B =>
            obtain ⟨b, rfl, hb, _, z0⟩ := HDR.out D x B hL
            have hc5r := HC57.out.then hcr
            have z0' := ((HC5.out.then hc5r).cell (p := ⟨b, D.length, none⟩) hb (by simp)).trans z0
            have hxi : I64 x := HEO.out.drop x (by rw [hL]; simp)
            have hlk := hcd.look hxi
            obtain ⟨w9, hup, hcd9, hc9, hs9⟩ := hcd.bump hxi
            rw [bump_count] at hcd9
            have hcr9 : Chg (fun _ => False) w7 w9 := hcr.trans hc9 fun k hk e => by omega
            have hcm9 := HM.out.same hcr9
            have hm9 := hcm9.look hxi
            have hd9 := hcd9.look hxi
            have hlt : (D.length : Int) < (E.drop.length : Int) := by rw [hL]; simp; omega
            have hge : (0 : Int) ≤ (D.length : Int) := by omega
            have hL2 : E.drop = (D ++ [x]) ++ B := by rw [hL]; simp
            have HL := Lib.hid hL
            have HL2 := Lib.hid hL2
            have HCD9 := Lib.hid hcd9
            have HCR9 := Lib.hid hcr9
            have hxc := nodup_count HFN.out x
            have hdc := nodup_count hnd x
            have hdc2 : (D ++ [x]).count x = D.count x + 1 := by simp
            rw [hxc] at hm9
            rw [hdc2] at hd9
            rw [hdc] at hlk hup hd9
            clear hL hL2 hc5r hcr hcd9 hcr9 hc9 hs9 z0 hcd hcm9 hxc hdc hdc2
            have hxA : x ∈ A := (HF.out x).2 (HOKD.out.1 x (by rw [HL.out]; simp))
            have hxD : ¬ x ∈ D := fun h => by
              have := HOKD.out.2
              rw [HL.out, List.nodup_append] at this
              exact this.2.2 x h x (by simp) rfl
            rw [if_pos hxA] at hm9
            rw [if_neg hxD] at hlk hup hd9
            have hm9' : (Instr.lookup 167 (.map (some w5.heap.size)) (.int .i64 x) false).run Tryz.prog w9 = .ok (.int .i64 1) w9 := hm9
            have hd9' : (Instr.lookup 167 (.map (some w7.heap.size)) (.int .i64 x) false).run Tryz.prog w9 = .ok (.int .i64 1) w9 := hd9
            have hlk' : (Instr.lookup 167 (.map (some w7.heap.size)) (.int .i64 x) false).run Tryz.prog wr = .ok (.int .i64 0) wr := hlk
            have hup' : (Instr.mapUpdate 167 (.map (some w7.heap.size)) (.int .i64 x) (.int .i64 1)).run Tryz.prog wr = .ok () w9 := hup
            have hin2 : ∀ y ∈ D ++ [x], y ∈ A := fun y hy => by
              rcases List.mem_append.1 hy with h | h
              · exact hin y h
              · simp at h; subst h; exact hxA
            have hnd2 : (D ++ [x]).Nodup := by
              rw [List.nodup_append]
              exact ⟨hnd, by simp, fun a ha c hc e => by simp at hc; subst hc; subst e; exact hxD ha⟩
            have HIN2 := Lib.hid hin2
            have HND2 := Lib.hid hnd2
            clear hxA hxD hin hnd hm9 hd9 hlk hup hin2 hnd2
            go_wp2_with fail
            go_roundw
            case rel => exact ⟨D ++ [x], B, HL2.out, by simp, HIN2.out, HND2.out, HCD9.out, HCR9.out⟩
            case measure => simp [intOf]; omega
      | cons x B =>
        obtain ⟨b, rfl, hb, _, z0⟩ := HFR6.out A x B hL
        have hxi : I64 x := HFI.out x (by rw [hL]; simp)
        have hlk := hcm.look hxi
        obtain ⟨w9, hup, hcm9, hc9, hs9⟩ := hcm.bump hxi
        rw [bump_count] at hcm9
        have hbne : b ≠ w5.heap.size := fun e => by
          subst e
          obtain ⟨n, es, clk, hes, _⟩ := HCM6.out
          unfold World.cell? at z0
          rw [hes] at z0
          cases z0
        have z0' := (hcr.cell (p := ⟨b, A.length, none⟩) hb hbne).trans z0
        have hlt : (A.length : Int) < (F.length : Int) := by rw [hL]; simp; omega
        have hge : (0 : Int) ≤ (A.length : Int) := by omega
        have hL2 : F = (A ++ [x]) ++ B := by rw [hL]; simp
        have hcle : A.count x ≤ A.length := List.count_le_length
        have hcr9 := hcr.then hc9
        have HL2 := Lib.hid hL2
        have HCM9 := Lib.hid hcm9
        have HCR9 := Lib.hid hcr9
        clear hL hL2 hcm hcr hcm9 hc9 hs9 hcr9 z0 hbne
        generalize A.count x = cx at *
        go_wp2_with fail
        go_roundw
        case rel => exact ⟨A ++ [x], B, HL2.out, by simp, HCM9.out, HCR9.out⟩
        case measure => simp [intOf]; omega
end Go.Proofs.YtahahginmgidjaaGreatDoor
