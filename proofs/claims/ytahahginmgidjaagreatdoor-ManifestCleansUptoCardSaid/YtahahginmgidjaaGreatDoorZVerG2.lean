/-
  The program's version: Apply, one way of it.
-/
import Derived.Test.YtahahginmgidjaaGreatDoorZMg25
namespace Go.Proofs.YtahahginmgidjaaGreatDoor
open Go.RowKit
set_option linter.unusedVariables false
set_option linter.unusedSimpArgs false

set_option maxRecDepth 1000000 in
set_option maxHeartbeats 16000000 in
theorem ver_apply_drops (S : VerV) (E : EditV) (L : Nat → Value) (av dv : Value) (w : World) (hS : Good S) (hEo : EdOk E) (hnx : I64 S.next) (hv : VerAt w L S.lv) (ha : Lst placeC w av E.add) (hd : Lst i64C w dv E.drop)
    (hSl : ∀ i, i < 4 → (S.lv i).length ≤ 50000000) (hA : E.add.length ≤ 50000000) (hD : E.drop.length ≤ 50000000) (hnums : okNums S E) (hbad : ¬ okDrops (filesOf (flat S)) E.drop) :
    Calls Tryz.prog 24 #[.agg #[L 0, L 1, L 2, L 3, .int .i64 S.log, .int .i64 S.next, .int .i64 S.seq], .agg #[av, dv, .int .i64 E.log, .int .i64 E.next, .int .i64 E.seq]] w (VApplyPost w S E) := by
  obtain ⟨aa, ac, rfl, hac, han, har⟩ := place_form ha
  obtain ⟨da, dc, rfl, hdc, hdn, hdr⟩ := i64_form hd
  have hmm : ∀ w : World, (Instr.makeMap 167 none).run Tryz.prog w = .ok (.map (some w.heap.size)) (w.alloc (.map #[] 0)) := fun w => run_makeMap 167 w
  have HS := Lib.hid hS
  have HEO := Lib.hid hEo
  have HV := Lib.hid hv
  have HA := Lib.hid ha
  have HD := Lib.hid hd
  have HAR := Lib.hid har
  have HDR := Lib.hid hdr
  have HSL := Lib.hid hSl
  have HNX := Lib.hid hnx
  have HIX := Lib.hid (fun (k : Nat) (hk : k < 4) (w : World) => run_index4 L hk w)
  clear hv ha hd har hdr hS hEo hSl hnx
  obtain ⟨w5, hw5⟩ : ∃ w5, w5 = ((w.alloc (.cells #[L 0, L 1, L 2, L 3, .int .i64 S.log, .int .i64 S.next, .int .i64 S.seq] 29)).alloc (.cells #[.slice aa E.add.length ac, .slice da E.drop.length dc, .int .i64 E.log, .int .i64 E.next, .int .i64 E.seq] 57)).alloc (.cells #[.slice none 0 0, .slice none 0 0, .slice none 0 0, .slice none 0 0, .int .i64 0, .int .i64 0, .int .i64 0] 29) := ⟨_, rfl⟩
  have hc5 : Chg (fun _ => False) w w5 := by rw [hw5]; ((repeat (first | exact Chg.refl _ _ | assumption | refine Chg.drewN ?_ _ | refine Chg.drew ?_ | refine Chg.alloc ?_ _ | refine Chg.setCell ?_ (by first | (simp; done) | (simp; omega) | (intro h; simp at h; omega)) _)))
  have b0 : Blk w5 w.heap.size 29 #[L 0, L 1, L 2, L 3, .int .i64 S.log, .int .i64 S.next, .int .i64 S.seq] := by rw [hw5]; exact ((Blk.new w _ _).alloc _).alloc _
  have b1 : Blk w5 (w.heap.size + 1) 57 #[.slice aa E.add.length ac, .slice da E.drop.length dc, .int .i64 E.log, .int .i64 E.next, .int .i64 E.seq] := by rw [hw5]; exact (Blk.new1 w _ _ _).alloc _
  have b2 : Blk w5 (w.heap.size + 1 + 1) 29 #[.slice none 0 0, .slice none 0 0, .slice none 0 0, .slice none 0 0, .int .i64 0, .int .i64 0, .int .i64 0] := by rw [hw5]; exact Blk.new2 w _ _ _ _
  have hsz5 : w.heap.size + 3 ≤ w5.heap.size := by rw [hw5]; simp
  have hlt50 : w.heap.size < w5.heap.size := by omega
  have hlt51 : w.heap.size + 1 < w5.heap.size := by omega
  have hlt52 : w.heap.size + 1 + 1 < w5.heap.size := by omega
  have k04 := b0.cell 4
  have k05 := b0.cell 5
  have k06 := b0.cell 6
  have k12 := b1.cell 2
  have k13 := b1.cell 3
  have k14 := b1.cell 4
  simp at k04 k05 k06 k12 k13 k14
  have B0 := Lib.hid b0
  have B1 := Lib.hid b1
  have B2 := Lib.hid b2
  have HC5 := Lib.hid hc5
  have HW5 := Lib.hid hw5
  clear hw5 hc5 b0 b1 b2
  have HNO := Lib.hid (show ¬ okV S E from fun h => hbad h.2.1)
  have l1 : ¬ E.log < S.log := fun h => hnums.1 (.inl h)
  have l2 : ¬ E.next < S.next := fun h => hnums.1 (.inr (.inl h))
  have l3 : ¬ E.seq < S.seq := fun h => hnums.1 (.inr (.inr h))
  have HN := Lib.hid hnums
  clear hnums
  go_enter Tryz.func24, Tryz.ntmps24
  go_upto_region 1 with fail
  rw [← HW5.out]
  go_cut [54] (fun c wx => c = .bool false ∧ w5 = wx)
  case first =>
    cases hq1 : (E.log != 0) <;> cases hq2 : (E.next != 0)
    all_goals
      go_wp2_with fail
      all_goals
        go_meet
        refine ⟨congrArg Value.bool ?_, rfl⟩
        have hr1 := hq1
        have hr2 := hq2
        have hr3 := HN.out.2
        simp at hr1 hr2 hr3
        first | rfl | (exfalso; omega) | (simp; omega)
  case rest =>
    obtain ⟨rfl, rfl⟩ := hcut
    clear l1 l2 l3
    obtain ⟨F, hF⟩ : ∃ F, ((filesOf (flatF S.lv)).mergeSort fun x y => decide (x ≤ y)) = F := ⟨_, rfl⟩
    have hFm : ∀ x, x ∈ F ↔ x ∈ filesOf (flat S) := fun x => by rw [← hF]; exact sorted_files_mem x
    have hFn : F.Nodup := by rw [← hF, (merge_perm _).nodup_iff]; exact HS.out.files
    have hFl : F.length ≤ 200000000 := by
      rw [← hF, (merge_perm _).length_eq]
      exact flatF_le HSL.out
    have hFi : ∀ x ∈ F, I64 x := fun x hx => by
      obtain ⟨p, hp, rfl⟩ := List.mem_map.1 ((hFm x).1 hx)
      obtain ⟨i, hi, m, hm, rfl⟩ := mem_flatF.1 hp
      have := HS.out.ends i hi m hm
      have := HNX.out
      unfold I64 at *
      simp only
      omega
    have k00 := B0.out.cell 0
    have k01 := B0.out.cell 1
    have k02 := B0.out.cell 2
    have k03 := B0.out.cell 3
    simp at k00 k01 k02 k03
    have k00' : (w5.alloc (.map #[] 0)).cell? ⟨w.heap.size, 0, none⟩ = some (L 0) := by rw [World.cell?_alloc_lt _ _ _ (by simp; omega)]; exact k00
    have hfc := fun W (h : VerAt W L S.lv) => ver_files L S.lv S.log S.next S.seq W h (fun i hi => by have := HSL.out i hi; omega)
    unfold FilesPost at hfc
    rw [hF] at hfc
    have HFC := Lib.hid hfc
    have HF := Lib.hid (show ∀ x, x ∈ F ↔ x ∈ filesOf (flat S) from hFm)
    have HFN := Lib.hid hFn
    have HFI := Lib.hid hFi
    clear hF hfc hFm hFn hFi
    go_wp2_with fail
    refine (HFC.out _ ((HV.out.same HC5.out).same (by ((repeat (first | exact Chg.refl _ _ | assumption | refine Chg.drewN ?_ _ | refine Chg.drew ?_ | refine Chg.alloc ?_ _ | refine Chg.setCell ?_ (by first | (simp; done) | (simp; omega) | (intro h; simp at h; omega)) _)))))).mono ?_
    rintro e w6 ⟨fv, rfl, hO6, hk6, hc6⟩
    obtain ⟨fa, fcap, rfl, _, hfn6, hfr6⟩ := i64_form hO6
    have hcm6 := (CntAt.new w5).same hc6
    have hc56 : Chg (fun _ => False) w5 w6 := Chg.then (by ((repeat (first | exact Chg.refl _ _ | assumption | refine Chg.drewN ?_ _ | refine Chg.drew ?_ | refine Chg.alloc ?_ _ | refine Chg.setCell ?_ (by first | (simp; done) | (simp; omega) | (intro h; simp at h; omega)) _)))) hc6
    have hsz6 := hc6.size
    simp at hsz6
    have HFR6 := Lib.hid hfr6
    have HCM6 := Lib.hid hcm6
    have HC56 := Lib.hid hc56
    clear hO6 hk6 hc6 hfr6 hcm6 hc56 k00'
    go_wp2_with fail
    go_loopw [60] (fun i wr => ∃ A R, F = A ++ R ∧ i = .int .i64 A.length ∧ CntAt wr w5.heap.size (fun y => A.count y) ∧ Chg (fun k => k = w5.heap.size) w6 wr) (fun i _ => F.length - (intOf i).toNat)
    case atStart => exact ⟨[], F, rfl, rfl, by simpa using HCM6.out, Chg.refl _ _⟩
    case round =>
      obtain ⟨A, R, hL, rfl, hcm, hcr⟩ := hrel
      have hAl : A.length ≤ F.length := by rw [hL]; simp
      have hszr := hcr.size
      cases R with
      | nil =>
        have hge : ¬ ((A.length : Int) < (F.length : Int)) := by rw [hL]; simp
        have hA0 : A = F := by rw [hL]; simp
        subst hA0
        have hc57 : Chg (fun _ => False) w5 wr := HC56.out.trans hcr fun k hk e => by omega
        have HM := Lib.hid hcm
        have HC57 := Lib.hid hc57
        clear hL hcm hcr hc57
        have k11 := (B1.out.chg HC57.out (by simp)).cell 1
        simp at k11
        have hsz7 := HC57.out.size
        have hm5 := HM.out.lt
        have hlt70 : w.heap.size < wr.heap.size := by omega
        have hlt71 : w.heap.size + 1 < wr.heap.size := by omega
        have hlt72 : w.heap.size + 1 + 1 < wr.heap.size := by omega
        obtain ⟨w7, hw7⟩ : ∃ w7 : World, w7 = wr := ⟨_, rfl⟩
        subst hw7
        go_wp2_with fail
        go_loopw [73] (fun i wr => ∃ D R, E.drop = D ++ R ∧ i = .int .i64 D.length ∧ (∀ x ∈ D, x ∈ A) ∧ D.Nodup ∧ CntAt wr w7.heap.size (fun y => D.count y) ∧ Chg (fun _ => False) w7 wr) (fun i _ => E.drop.length - (intOf i).toNat)
        case atStart => exact ⟨[], E.drop, rfl, rfl, by simp, by simp, by simpa using CntAt.new w7, by ((repeat (first | exact Chg.refl _ _ | assumption | refine Chg.drewN ?_ _ | refine Chg.drew ?_ | refine Chg.alloc ?_ _ | refine Chg.setCell ?_ (by first | (simp; done) | (simp; omega) | (intro h; simp at h; omega)) _)))⟩
        case round =>
          obtain ⟨D, R, hL, rfl, hin, hnd, hcd, hcr⟩ := hrel
          have hAl : D.length ≤ E.drop.length := by rw [hL]; simp
          have hszr := hcr.size
          cases R with
          | nil =>
            have hge : ¬ ((D.length : Int) < (E.drop.length : Int)) := by rw [hL]; simp
            have hD0 : D = E.drop := by rw [hL]; simp
            subst hD0
            have hok : okDrops (filesOf (flat S)) E.drop := ⟨fun f hf => (HF.out f).1 (hin f hf), hnd⟩
            exact absurd hok hbad
          | cons x B =>
            obtain ⟨b, rfl, hb, _, z0⟩ := HDR.out D x B hL
            have hc5r := HC57.out.then hcr
            have z0' := ((HC5.out.then hc5r).cell (p := ⟨b, D.length, none⟩) hb (by simp)).trans z0
            have hxi : I64 x := HEO.out.drop x (by rw [hL]; simp)
            have hlk := hcd.look hxi
            obtain ⟨w9, hup, hcd9, hc9, hs9⟩ := hcd.bump hxi
            rw [bump_count] at hcd9
            have hcr9 : Chg (fun _ => False) w7 w9 := hcr.trans hc9 fun k hk e => by omega
            have hcm9 := HM.out.same hcr9
            have hm9 := hcm9.look hxi
            have hd9 := hcd9.look hxi
            have hlt : (D.length : Int) < (E.drop.length : Int) := by rw [hL]; simp; omega
            have hge : (0 : Int) ≤ (D.length : Int) := by omega
            have hL2 : E.drop = (D ++ [x]) ++ B := by rw [hL]; simp
            have HL := Lib.hid hL
            have HL2 := Lib.hid hL2
            have HCD9 := Lib.hid hcd9
            have HCR9 := Lib.hid hcr9
            have hxc := nodup_count HFN.out x
            have hdc := nodup_count hnd x
            have hdc2 : (D ++ [x]).count x = D.count x + 1 := by simp
            rw [hxc] at hm9
            rw [hdc2] at hd9
            rw [hdc] at hlk hup hd9
            clear hL hL2 hc5r hcr hcd9 hcr9 hc9 hs9 z0 hcd hcm9 hxc hdc hdc2
            by_cases hxA : x ∈ A
            · rw [if_pos hxA] at hm9
              by_cases hxD : x ∈ D
              · rw [if_pos hxD] at hlk hup hd9
                have hm9' : (Instr.lookup 167 (.map (some w5.heap.size)) (.int .i64 x) false).run Tryz.prog w9 = .ok (.int .i64 1) w9 := hm9
                have hd9' : (Instr.lookup 167 (.map (some w7.heap.size)) (.int .i64 x) false).run Tryz.prog w9 = .ok (.int .i64 2) w9 := hd9
                have hlk' : (Instr.lookup 167 (.map (some w7.heap.size)) (.int .i64 x) false).run Tryz.prog wr = .ok (.int .i64 1) wr := hlk
                have hup' : (Instr.mapUpdate 167 (.map (some w7.heap.size)) (.int .i64 x) (.int .i64 2)).run Tryz.prog wr = .ok () w9 := hup
                clear hxA hxD hin hnd hm9 hd9 hlk hup
                have hbase : Chg (fun _ => False) w5 w9 := HC57.out.then HCR9.out
                have hz0 := B2.out.chg hbase (by simp)
                have x0 := hz0.cell 0
                have x1 := hz0.cell 1
                have x2 := hz0.cell 2
                have x3 := hz0.cell 3
                have x4 := hz0.cell 4
                have x5 := hz0.cell 5
                have x6 := hz0.cell 6
                have f0 := hz0.frozen 0
                have f1 := hz0.frozen 1
                have f2 := hz0.frozen 2
                have f3 := hz0.frozen 3
                have f4 := hz0.frozen 4
                have f5 := hz0.frozen 5
                have f6 := hz0.frozen 6
                simp at x0 x1 x2 x3 x4 x5 x6
                have HZ0 := Lib.hid hz0
                have HBS := Lib.hid (Chg.then HC5.out hbase)
                clear hbase hz0
                go_upto_region 15 with fail
                go_cut [5] (fun c wx => c = .int .i64 17 ∧ Blk wx (w.heap.size + 1 + 1) 29 #[.slice none 0 0, .slice none 0 0, .slice none 0 0, .slice none 0 0, .int .i64 0, .int .i64 0, .int .i64 0] ∧ Chg (fun _ => False) w wx)
                case first =>
                  go_wp2_with fail
                  go_meet
                  refine ⟨rfl, ?_, ?_⟩
                  · have := ((((((HZ0.out.set_ 0 (.slice none 0 0)).set_ 1 (.slice none 0 0)).set_ 2 (.slice none 0 0)).set_ 3 (.slice none 0 0)).set_ 4 (.int .i64 0)).set_ 5 (.int .i64 0)).set_ 6 (.int .i64 0)
                    simpa using this
                  · have := HBS.out
                    ((repeat (first | with_reducible exact Chg.refl _ _ | with_reducible assumption | with_reducible refine Chg.drewN ?_ _ | with_reducible refine Chg.drew ?_ | with_reducible refine Chg.alloc ?_ _ | with_reducible refine Chg.setCell ?_ (by first | (simp; done) | (simp; omega) | (intro h; simp at h; omega)) _)))
                case rest =>
                  obtain ⟨rfl, hz, hcz⟩ := hcut
                  have x0 := hz.cell 0
                  have x1 := hz.cell 1
                  have x2 := hz.cell 2
                  have x3 := hz.cell 3
                  have x4 := hz.cell 4
                  have x5 := hz.cell 5
                  have x6 := hz.cell 6
                  simp at x0 x1 x2 x3 x4 x5 x6
                  have HCZ := Lib.hid hcz
                  clear hz hcz
                  go_wp2_with fail
                  exact bodyPost_ret (v := .tuple #[.agg #[.slice none 0 0, .slice none 0 0, .slice none 0 0, .slice none 0 0, .int .i64 0, .int .i64 0, .int .i64 0], .int .i64 17]) (by simp [results, Tryz.results24, go_sem, x0, x1, x2, x3, x4, x5, x6]) rfl ⟨HCZ.out, .inr ⟨HNO.out, rfl⟩⟩
              · rw [if_neg hxD] at hlk hup hd9
                have hm9' : (Instr.lookup 167 (.map (some w5.heap.size)) (.int .i64 x) false).run Tryz.prog w9 = .ok (.int .i64 1) w9 := hm9
                have hd9' : (Instr.lookup 167 (.map (some w7.heap.size)) (.int .i64 x) false).run Tryz.prog w9 = .ok (.int .i64 1) w9 := hd9
                have hlk' : (Instr.lookup 167 (.map (some w7.heap.size)) (.int .i64 x) false).run Tryz.prog wr = .ok (.int .i64 0) wr := hlk
                have hup' : (Instr.mapUpdate 167 (.map (some w7.heap.size)) (.int .i64 x) (.int .i64 1)).run Tryz.prog wr = .ok () w9 := hup
                have hin2 : ∀ y ∈ D ++ [x], y ∈ A := fun y hy => by
                  rcases List.mem_append.1 hy with h | h
                  · exact hin y h
                  · simp at h; subst h; exact hxA
                have hnd2 : (D ++ [x]).Nodup := by
                  rw [List.nodup_append]
                  exact ⟨hnd, by simp, fun a ha c hc e => by simp at hc; subst hc; subst e; exact hxD ha⟩
                have HIN2 := Lib.hid hin2
                have HND2 := Lib.hid hnd2
                clear hxA hxD hin hnd hm9 hd9 hlk hup hin2 hnd2
                go_wp2_with fail
                go_roundw
                case rel => exact ⟨D ++ [x], B, HL2.out, by simp, HIN2.out, HND2.out, HCD9.out, HCR9.out⟩
                case measure => simp [intOf]; omega
            · rw [if_neg hxA] at hm9
              have hm9' : (Instr.lookup 167 (.map (some w5.heap.size)) (.int .i64 x) false).run Tryz.prog w9 = .ok (.int .i64 0) w9 := hm9
              obtain ⟨cx, hcx⟩ : ∃ cx : Nat, (if x ∈ D then 1 else 0) = cx := ⟨_, rfl⟩
              rw [hcx] at hlk hup
              have hcb : cx ≤ 1 := by rw [← hcx]; split <;> omega
              clear hxA hin hnd hm9 hd9 hcx
              have hbase : Chg (fun _ => False) w5 w9 := HC57.out.then HCR9.out
              have hz0 := B2.out.chg hbase (by simp)
              have x0 := hz0.cell 0
              have x1 := hz0.cell 1
              have x2 := hz0.cell 2
              have x3 := hz0.cell 3
              have x4 := hz0.cell 4
              have x5 := hz0.cell 5
              have x6 := hz0.cell 6
              have f0 := hz0.frozen 0
              have f1 := hz0.frozen 1
              have f2 := hz0.frozen 2
              have f3 := hz0.frozen 3
              have f4 := hz0.frozen 4
              have f5 := hz0.frozen 5
              have f6 := hz0.frozen 6
              simp at x0 x1 x2 x3 x4 x5 x6
              have HZ0 := Lib.hid hz0
              have HBS := Lib.hid (Chg.then HC5.out hbase)
              clear hbase hz0
              go_upto_region 15 with fail
              go_cut [5] (fun c wx => c = .int .i64 17 ∧ Blk wx (w.heap.size + 1 + 1) 29 #[.slice none 0 0, .slice none 0 0, .slice none 0 0, .slice none 0 0, .int .i64 0, .int .i64 0, .int .i64 0] ∧ Chg (fun _ => False) w wx)
              case first =>
                go_wp2_with fail
                go_meet
                refine ⟨rfl, ?_, ?_⟩
                · have := ((((((HZ0.out.set_ 0 (.slice none 0 0)).set_ 1 (.slice none 0 0)).set_ 2 (.slice none 0 0)).set_ 3 (.slice none 0 0)).set_ 4 (.int .i64 0)).set_ 5 (.int .i64 0)).set_ 6 (.int .i64 0)
                  simpa using this
                · have := HBS.out
                  ((repeat (first | with_reducible exact Chg.refl _ _ | with_reducible assumption | with_reducible refine Chg.drewN ?_ _ | with_reducible refine Chg.drew ?_ | with_reducible refine Chg.alloc ?_ _ | with_reducible refine Chg.setCell ?_ (by first | (simp; done) | (simp; omega) | (intro h; simp at h; omega)) _)))
              case rest =>
                obtain ⟨rfl, hz, hcz⟩ := hcut
                have x0 := hz.cell 0
                have x1 := hz.cell 1
                have x2 := hz.cell 2
                have x3 := hz.cell 3
                have x4 := hz.cell 4
                have x5 := hz.cell 5
                have x6 := hz.cell 6
                simp at x0 x1 x2 x3 x4 x5 x6
                have HCZ := Lib.hid hcz
                clear hz hcz
                go_wp2_with fail
                exact bodyPost_ret (v := .tuple #[.agg #[.slice none 0 0, .slice none 0 0, .slice none 0 0, .slice none 0 0, .int .i64 0, .int .i64 0, .int .i64 0], .int .i64 17]) (by simp [results, Tryz.results24, go_sem, x0, x1, x2, x3, x4, x5, x6]) rfl ⟨HCZ.out, .inr ⟨HNO.out, rfl⟩⟩
      | cons x B =>
        obtain ⟨b, rfl, hb, _, z0⟩ := HFR6.out A x B hL
        have hxi : I64 x := HFI.out x (by rw [hL]; simp)
        have hlk := hcm.look hxi
        obtain ⟨w9, hup, hcm9, hc9, hs9⟩ := hcm.bump hxi
        rw [bump_count] at hcm9
        have hbne : b ≠ w5.heap.size := fun e => by
          subst e
          obtain ⟨n, es, clk, hes, _⟩ := HCM6.out
          unfold World.cell? at z0
          rw [hes] at z0
          cases z0
        have z0' := (hcr.cell (p := ⟨b, A.length, none⟩) hb hbne).trans z0
        have hlt : (A.length : Int) < (F.length : Int) := by rw [hL]; simp; omega
        have hge : (0 : Int) ≤ (A.length : Int) := by omega
        have hL2 : F = (A ++ [x]) ++ B := by rw [hL]; simp
        have hcle : A.count x ≤ A.length := List.count_le_length
        have hcr9 := hcr.then hc9
        have HL2 := Lib.hid hL2
        have HCM9 := Lib.hid hcm9
        have HCR9 := Lib.hid hcr9
        clear hL hL2 hcm hcr hcm9 hc9 hs9 hcr9 z0 hbne
        generalize A.count x = cx at *
        go_wp2_with fail
        go_roundw
        case rel => exact ⟨A ++ [x], B, HL2.out, by simp, HCM9.out, HCR9.out⟩
        case measure => simp [intOf]; omega
end Go.Proofs.YtahahginmgidjaaGreatDoor
