/-
  The document's version: Apply, one way of it.
-/
import Derived.Test.YtahahginmgidjaaGreatDoorZMg31
namespace Go.Proofs.YtahahginmgidjaaGreatDoor
open Go.RowKit
set_option linter.unusedVariables false
set_option linter.unusedSimpArgs false

set_option maxRecDepth 1000000 in
set_option maxHeartbeats 16000000 in
theorem doc_apply_drops (S : VerV) (E : EditV) (v av dv : Value) (w : World) (hv : Lst docC w v (flat S)) (ha : Lst docC w av E.add) (hd : Lst i64C w dv E.drop)
    (hS : (flat S).length ≤ 200000000) (hA : E.add.length ≤ 100000000) (hD : E.drop.length ≤ 100000000) (hnums : okNums S E) (hbad : ¬ okDrops (filesOf (flat S)) E.drop) :
    Calls Tryz.prog 23 #[.agg #[v, .int .i64 S.log, .int .i64 S.next, .int .i64 S.seq], .agg #[av, dv, .int .i64 E.log, .int .i64 E.next, .int .i64 E.seq]] w (DApplyPost w S E) := by
  obtain ⟨va, vc, rfl, hvc, hvn, hvr⟩ := doc_form hv
  obtain ⟨aa, ac, rfl, hac, han, har⟩ := doc_form ha
  obtain ⟨da, dc, rfl, hdc, hdn, hdr⟩ := i64_form hd
  have HV := Lib.hid hv
  have HA := Lib.hid ha
  have HD := Lib.hid hd
  have HVR := Lib.hid hvr
  have HAR := Lib.hid har
  have HDR := Lib.hid hdr
  clear hv ha hd hvr har hdr
  obtain ⟨w5, hw5⟩ : ∃ w5, w5 = (((w.alloc (.cells #[.slice va (flat S).length vc, .int .i64 S.log, .int .i64 S.next, .int .i64 S.seq] 32)).alloc (.cells #[.slice aa E.add.length ac, .slice da E.drop.length dc, .int .i64 E.log, .int .i64 E.next, .int .i64 E.seq] 59)).alloc (.cells #[.slice none 0 0, .int .i64 0, .int .i64 0, .int .i64 0] 32)).alloc (.cells #[.slice none 0 0, .int .i64 0, .int .i64 0, .int .i64 0] 32) := ⟨_, rfl⟩
  have hc5 : Chg (fun _ => False) w w5 := by rw [hw5]; ((repeat (first | exact Chg.refl _ _ | assumption | refine Chg.drewN ?_ _ | refine Chg.drew ?_ | refine Chg.alloc ?_ _ | refine Chg.setCell ?_ (by first | (simp; done) | (simp; omega) | (intro h; simp at h; omega)) _)))
  have b0 : Blk w5 w.heap.size 32 #[.slice va (flat S).length vc, .int .i64 S.log, .int .i64 S.next, .int .i64 S.seq] := by rw [hw5]; exact (((Blk.new w _ _).alloc _).alloc _).alloc _
  have b1 : Blk w5 (w.heap.size + 1) 59 #[.slice aa E.add.length ac, .slice da E.drop.length dc, .int .i64 E.log, .int .i64 E.next, .int .i64 E.seq] := by rw [hw5]; exact ((Blk.new1 w _ _ _).alloc _).alloc _
  have b2 : Blk w5 (w.heap.size + 1 + 1) 32 #[.slice none 0 0, .int .i64 0, .int .i64 0, .int .i64 0] := by rw [hw5]; exact (Blk.new2 w _ _ _ _).alloc _
  have b3 : Blk w5 (w.heap.size + 1 + 1 + 1) 32 #[.slice none 0 0, .int .i64 0, .int .i64 0, .int .i64 0] := by
    rw [hw5]
    have := Blk.new (((w.alloc (.cells #[.slice va (flat S).length vc, .int .i64 S.log, .int .i64 S.next, .int .i64 S.seq] 32)).alloc (.cells #[.slice aa E.add.length ac, .slice da E.drop.length dc, .int .i64 E.log, .int .i64 E.next, .int .i64 E.seq] 59)).alloc (.cells #[.slice none 0 0, .int .i64 0, .int .i64 0, .int .i64 0] 32)) 32 #[.slice none 0 0, .int .i64 0, .int .i64 0, .int .i64 0]
    simpa using this
  have hsz5 : w5.heap.size = w.heap.size + 4 := by rw [hw5]; simp
  have k01 := b0.cell 1
  have k02 := b0.cell 2
  have k03 := b0.cell 3
  have k12 := b1.cell 2
  have k13 := b1.cell 3
  have k14 := b1.cell 4
  simp at k01 k02 k03 k12 k13 k14
  have B0 := Lib.hid b0
  have B1 := Lib.hid b1
  have B2 := Lib.hid b2
  have B3 := Lib.hid b3
  have HC5 := Lib.hid hc5
  have HW5 := Lib.hid hw5
  clear hw5 hc5 b0 b1 b2 b3
  have HNO := Lib.hid (show ¬ okV S E from fun h => hbad h.2.1)
  have l1 : ¬ E.log < S.log := fun h => hnums.1 (.inl h)
  have l2 : ¬ E.next < S.next := fun h => hnums.1 (.inr (.inl h))
  have l3 : ¬ E.seq < S.seq := fun h => hnums.1 (.inr (.inr h))
  have HN := Lib.hid hnums
  clear hnums
  go_enter Tryz.func23, Tryz.ntmps23
  go_upto_region 4 with fail
  rw [← HW5.out]
  go_cut [59] (fun c wx => c = .bool false ∧ w5 = wx)
  case first =>
    cases hq1 : (E.log == 0) <;> cases hq2 : (E.next == 0)
    all_goals
      go_wp2_with fail
      all_goals
        go_meet
        refine ⟨congrArg Value.bool ?_, rfl⟩
        have hr1 := hq1
        have hr2 := hq2
        have hr3 := HN.out.2
        simp at hr1 hr2 hr3
        first | rfl | (exfalso; omega) | (simp; omega)
  case rest =>
    obtain ⟨rfl, rfl⟩ := hcut
    clear l1 l2 l3
    have k11 := B1.out.cell 1
    have k00 := B0.out.cell 0
    simp at k11 k00
    obtain ⟨F, hF⟩ : ∃ F, filesOf (flat S) = F := ⟨_, rfl⟩
    have hFl : F.length ≤ 200000000 := by rw [← hF]; simpa [filesOf] using hS
    have hfc := doc_files (flat S) _ (by omega) w5 (HV.out.same HC5.out)
    rw [hF] at hfc
    have HF := Lib.hid hF
    have HFC := Lib.hid hfc
    clear hF hfc
    go_wp2_with fail
    refine HFC.out.mono ?_
    rintro e w6 ⟨ov0, rfl, hO6, hk6, hc6⟩
    obtain ⟨oa6, oc6, rfl, _, hon6, _⟩ := i64_form hO6
    have k11 := (B1.out.chg hc6 (by simp)).cell 1
    simp at k11
    have hsz6 := hc6.size
    have HO6 := Lib.hid hO6
    have HK6 := Lib.hid hk6
    have HC6 := Lib.hid hc6
    clear hO6 hk6 hc6
    go_wp2_with fail
    go_loopw [8] (fun i wr => ∃ A R, E.drop = A ++ R ∧ i = .int .i64 A.length ∧ (∀ f ∈ A, f ∈ F) ∧ A.Nodup ∧ Chg (fun _ => False) w6 wr) (fun i _ => E.drop.length - (intOf i).toNat)
    case atStart => exact ⟨[], E.drop, rfl, rfl, by simp, by simp, Chg.refl _ _⟩
    case round =>
      obtain ⟨A, R, hL, rfl, hin, hnd, hcr⟩ := hrel
      have k11' : wr.cell? ⟨w.heap.size + 1, 1, none⟩ = some (.slice da E.drop.length dc) := (hcr.cell (p := ⟨w.heap.size + 1, 1, none⟩) (by simp; omega) (by simp)).trans k11
      have HCR := Lib.hid hcr
      have HC6R := Lib.hid (HC6.out.then hcr)
      clear hcr
      have hAl : A.length ≤ E.drop.length := by rw [hL]; simp
      cases R with
      | nil =>
        have hge : ¬ ((A.length : Int) < (E.drop.length : Int)) := by rw [hL]; simp
        have hok : okDrops (filesOf (flat S)) E.drop := by
          rw [HF.out, hL]
          simp only [List.append_nil]
          exact ⟨hin, hnd⟩
        exact absurd hok hbad
      | cons x B =>
        obtain ⟨b, rfl, hb, _, z0⟩ := HDR.out A x B hL
        have z0' := ((HC5.out.then HC6R.out).cell (p := ⟨b, A.length, none⟩) hb (by simp)).trans z0
        have hlt : (A.length : Int) < (E.drop.length : Int) := by rw [hL]; simp; omega
        have hge : (0 : Int) ≤ (A.length : Int) := by omega
        have hAc : (A.length : Int) ≤ (dc : Int) := by omega
        have hAc2 : A.length ≤ dc := by omega
        have hL2 : E.drop = (A ++ [x]) ++ B := by rw [hL]; simp
        have HL := Lib.hid hL
        have HL2 := Lib.hid hL2
        have h1 := fun W (h : Lst i64C W (.slice oa6 F.length oc6) F) => doc_has F x _ W h
        cases hx : hasB F x with
        | false =>
          rw [hx] at h1
          have H1 := Lib.hid h1
          have h2 := fun W (h : Lst i64C W (.slice (some ⟨b, 0, none⟩) A.length dc) A) => doc_has A x _ W h
          have hcut : Lst i64C w5 (.slice (some ⟨b, 0, none⟩) A.length dc) A := by
            obtain ⟨a', c', e1, e2⟩ := (HD.out.same HC5.out).cut_room i64Ok hAl
            injection e1 with e3 e4 e5
            rw [← e3, ← e5] at e2
            rwa [HL.out, List.take_left] at e2
          have HCUT := Lib.hid hcut
          have H2 := Lib.hid h2
          generalize hasB A x = bb at *
          clear hL hL2 h1 h2 hcut hx hin hnd z0 hbad
          have hbase : Chg (fun _ => False) w5 wr := HC6R.out
          have y0 := (B3.out.chg hbase (by simp)).cell 0
          have y1 := (B3.out.chg hbase (by simp)).cell 1
          have y2 := (B3.out.chg hbase (by simp)).cell 2
          have y3 := (B3.out.chg hbase (by simp)).cell 3
          have x0 := (B2.out.chg hbase (by simp)).cell 0
          have x1 := (B2.out.chg hbase (by simp)).cell 1
          have x2 := (B2.out.chg hbase (by simp)).cell 2
          have x3 := (B2.out.chg hbase (by simp)).cell 3
          have f0 := (B2.out.chg hbase (by simp)).frozen 0
          have f1 := (B2.out.chg hbase (by simp)).frozen 1
          have f2 := (B2.out.chg hbase (by simp)).frozen 2
          have f3 := (B2.out.chg hbase (by simp)).frozen 3
          simp at y0 y1 y2 y3 x0 x1 x2 x3
          have HBS := Lib.hid (Chg.then HC5.out hbase)
          clear hbase
          go_wp2_with fail
          refine (H1.out _ (HO6.out.same HCR.out)).mono ?_
          rintro e w' ⟨rfl, rfl⟩
          go_wp2_with fail
          go_quiet ((go_at_call 85; refine quiet_same (H2.out _ ?_); exact HCUT.out.same (HC6R.out.drewN _)))
          go_wp2_with fail
          refine bodyPost_ret (v := .tuple #[.agg #[.slice none 0 0, .int .i64 0, .int .i64 0, .int .i64 0], .int .i64 17]) (by simp [results, Tryz.results23, go_sem, x0, x1, x2, x3]) rfl ⟨?_, .inr ⟨HNO.out, rfl⟩⟩
          have := HBS.out
          ((repeat (first | with_reducible exact Chg.refl _ _ | with_reducible assumption | with_reducible refine Chg.drewN ?_ _ | with_reducible refine Chg.drew ?_ | with_reducible refine Chg.alloc ?_ _ | with_reducible refine Chg.setCell ?_ (by first | (simp; done) | (simp; omega) | (intro h; simp at h; omega)) _)))
        | true =>
          rw [hx] at h1
          have H1 := Lib.hid h1
          have hxF := (hasB_iff F x).1 hx
          have h2 := fun W (h : Lst i64C W (.slice (some ⟨b, 0, none⟩) A.length dc) A) => doc_has A x _ W h
          have hcut : Lst i64C w5 (.slice (some ⟨b, 0, none⟩) A.length dc) A := by
            obtain ⟨a', c', e1, e2⟩ := (HD.out.same HC5.out).cut_room i64Ok hAl
            injection e1 with e3 e4 e5
            rw [← e3, ← e5] at e2
            rwa [HL.out, List.take_left] at e2
          have HCUT := Lib.hid hcut
          cases hy : hasB A x with
          | true =>
            rw [hy] at h2
            have H2 := Lib.hid h2
            clear hL hL2 h1 h2 hcut hx hy hxF hin hnd z0 hbad
            have hbase : Chg (fun _ => False) w5 wr := HC6R.out
            have y0 := (B3.out.chg hbase (by simp)).cell 0
            have y1 := (B3.out.chg hbase (by simp)).cell 1
            have y2 := (B3.out.chg hbase (by simp)).cell 2
            have y3 := (B3.out.chg hbase (by simp)).cell 3
            have x0 := (B2.out.chg hbase (by simp)).cell 0
            have x1 := (B2.out.chg hbase (by simp)).cell 1
            have x2 := (B2.out.chg hbase (by simp)).cell 2
            have x3 := (B2.out.chg hbase (by simp)).cell 3
            have f0 := (B2.out.chg hbase (by simp)).frozen 0
            have f1 := (B2.out.chg hbase (by simp)).frozen 1
            have f2 := (B2.out.chg hbase (by simp)).frozen 2
            have f3 := (B2.out.chg hbase (by simp)).frozen 3
            simp at y0 y1 y2 y3 x0 x1 x2 x3
            have HBS := Lib.hid (Chg.then HC5.out hbase)
            clear hbase
            go_wp2_with fail
            refine (H1.out _ (HO6.out.same HCR.out)).mono ?_
            rintro e w' ⟨rfl, rfl⟩
            go_wp2_with fail
            go_quiet ((go_at_call 85; refine quiet_same (H2.out _ ?_); exact HCUT.out.same (HC6R.out.drewN _)))
            go_wp2_with fail
            refine bodyPost_ret (v := .tuple #[.agg #[.slice none 0 0, .int .i64 0, .int .i64 0, .int .i64 0], .int .i64 17]) (by simp [results, Tryz.results23, go_sem, x0, x1, x2, x3]) rfl ⟨?_, .inr ⟨HNO.out, rfl⟩⟩
            have := HBS.out
            ((repeat (first | with_reducible exact Chg.refl _ _ | with_reducible assumption | with_reducible refine Chg.drewN ?_ _ | with_reducible refine Chg.drew ?_ | with_reducible refine Chg.alloc ?_ _ | with_reducible refine Chg.setCell ?_ (by first | (simp; done) | (simp; omega) | (intro h; simp at h; omega)) _)))
          | false =>
            clear hbad
            have hin2 : ∀ f ∈ A ++ [x], f ∈ F := fun f hf => by
              rcases List.mem_append.1 hf with h | h
              · exact hin f h
              · simp at h; subst h; exact hxF
            have hnd2 : (A ++ [x]).Nodup := by
              rw [List.nodup_append]
              exact ⟨hnd, by simp, fun a ha c hc e => by simp at hc; subst hc; subst e; exact (hasB_no A a).1 hy ha⟩
            have HIN2 := Lib.hid hin2
            have HND2 := Lib.hid hnd2
            rw [hy] at h2
            have H2 := Lib.hid h2
            clear hL hL2 h1 h2 hcut hx hy hxF hin hnd hin2 hnd2 z0
            go_wp2_with fail
            refine (H1.out _ (HO6.out.same HCR.out)).mono ?_
            rintro e w' ⟨rfl, rfl⟩
            go_wp2_with fail
            go_quiet ((go_at_call 85; refine quiet_same (H2.out _ ?_); exact HCUT.out.same (HC6R.out.drewN _)))
            go_wp2_with fail
            go_roundw
            case rel => exact ⟨A ++ [x], B, HL2.out, by simp, HIN2.out, HND2.out, HCR.out.drewN _⟩
            case measure => simp [intOf]; omega
end Go.Proofs.YtahahginmgidjaaGreatDoor
