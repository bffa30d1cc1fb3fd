/-
  The document's version: Apply, one way of it.
-/
import Derived.Test.YtahahginmgidjaaGreatDoorZMg31
namespace Go.Proofs.YtahahginmgidjaaGreatDoor
open Go.RowKit
set_option linter.unusedVariables false
set_option linter.unusedSimpArgs false

set_option maxRecDepth 1000000 in
set_option maxHeartbeats 16000000 in
theorem doc_apply_pairs (S : VerV) (E : EditV) (v av dv : Value) (w : World) (hv : Lst docC w v (flat S)) (ha : Lst docC w av E.add) (hd : Lst i64C w dv E.drop)
    (hS : (flat S).length ≤ 200000000) (hA : E.add.length ≤ 100000000) (hD : E.drop.length ≤ 100000000) (hnums : okNums S E) (hdrops : okDrops (filesOf (flat S)) E.drop) (hadds : okAdds (filesOf (flat S)) E.next E.add) (hbad : ¬ ∀ i, 1 ≤ i → i < 4 → ((nextV S E).lv i).Pairwise Apart) :
    Calls Tryz.prog 23 #[.agg #[v, .int .i64 S.log, .int .i64 S.next, .int .i64 S.seq], .agg #[av, dv, .int .i64 E.log, .int .i64 E.next, .int .i64 E.seq]] w (DApplyPost w S E) := by
  obtain ⟨va, vc, rfl, hvc, hvn, hvr⟩ := doc_form hv
  obtain ⟨aa, ac, rfl, hac, han, har⟩ := doc_form ha
  obtain ⟨da, dc, rfl, hdc, hdn, hdr⟩ := i64_form hd
  have HV := Lib.hid hv
  have HA := Lib.hid ha
  have HD := Lib.hid hd
  have HVR := Lib.hid hvr
  have HAR := Lib.hid har
  have HDR := Lib.hid hdr
  clear hv ha hd hvr har hdr
  obtain ⟨w5, hw5⟩ : ∃ w5, w5 = (((w.alloc (.cells #[.slice va (flat S).length vc, .int .i64 S.log, .int .i64 S.next, .int .i64 S.seq] 32)).alloc (.cells #[.slice aa E.add.length ac, .slice da E.drop.length dc, .int .i64 E.log, .int .i64 E.next, .int .i64 E.seq] 59)).alloc (.cells #[.slice none 0 0, .int .i64 0, .int .i64 0, .int .i64 0] 32)).alloc (.cells #[.slice none 0 0, .int .i64 0, .int .i64 0, .int .i64 0] 32) := ⟨_, rfl⟩
  have hc5 : Chg (fun _ => False) w w5 := by rw [hw5]; ((repeat (first | exact Chg.refl _ _ | assumption | refine Chg.drewN ?_ _ | refine Chg.drew ?_ | refine Chg.alloc ?_ _ | refine Chg.setCell ?_ (by first | (simp; done) | (simp; omega) | (intro h; simp at h; omega)) _)))
  have b0 : Blk w5 w.heap.size 32 #[.slice va (flat S).length vc, .int .i64 S.log, .int .i64 S.next, .int .i64 S.seq] := by rw [hw5]; exact (((Blk.new w _ _).alloc _).alloc _).alloc _
  have b1 : Blk w5 (w.heap.size + 1) 59 #[.slice aa E.add.length ac, .slice da E.drop.length dc, .int .i64 E.log, .int .i64 E.next, .int .i64 E.seq] := by rw [hw5]; exact ((Blk.new1 w _ _ _).alloc _).alloc _
  have b2 : Blk w5 (w.heap.size + 1 + 1) 32 #[.slice none 0 0, .int .i64 0, .int .i64 0, .int .i64 0] := by rw [hw5]; exact (Blk.new2 w _ _ _ _).alloc _
  have b3 : Blk w5 (w.heap.size + 1 + 1 + 1) 32 #[.slice none 0 0, .int .i64 0, .int .i64 0, .int .i64 0] := by
    rw [hw5]
    have := Blk.new (((w.alloc (.cells #[.slice va (flat S).length vc, .int .i64 S.log, .int .i64 S.next, .int .i64 S.seq] 32)).alloc (.cells #[.slice aa E.add.length ac, .slice da E.drop.length dc, .int .i64 E.log, .int .i64 E.next, .int .i64 E.seq] 59)).alloc (.cells #[.slice none 0 0, .int .i64 0, .int .i64 0, .int .i64 0] 32)) 32 #[.slice none 0 0, .int .i64 0, .int .i64 0, .int .i64 0]
    simpa using this
  have hsz5 : w5.heap.size = w.heap.size + 4 := by rw [hw5]; simp
  have k01 := b0.cell 1
  have k02 := b0.cell 2
  have k03 := b0.cell 3
  have k12 := b1.cell 2
  have k13 := b1.cell 3
  have k14 := b1.cell 4
  simp at k01 k02 k03 k12 k13 k14
  have B0 := Lib.hid b0
  have B1 := Lib.hid b1
  have B2 := Lib.hid b2
  have B3 := Lib.hid b3
  have HC5 := Lib.hid hc5
  have HW5 := Lib.hid hw5
  clear hw5 hc5 b0 b1 b2 b3
  have HDR0 := Lib.hid hdrops
  clear hdrops
  have HADDS := Lib.hid hadds
  clear hadds
  have HBAD := Lib.hid hbad
  have HNO := Lib.hid (show ¬ okV S E from fun h => hbad h.2.2.2)
  clear hbad
  have l1 : ¬ E.log < S.log := fun h => hnums.1 (.inl h)
  have l2 : ¬ E.next < S.next := fun h => hnums.1 (.inr (.inl h))
  have l3 : ¬ E.seq < S.seq := fun h => hnums.1 (.inr (.inr h))
  have HN := Lib.hid hnums
  clear hnums
  go_enter Tryz.func23, Tryz.ntmps23
  go_upto_region 4 with fail
  rw [← HW5.out]
  go_cut [59] (fun c wx => c = .bool false ∧ w5 = wx)
  case first =>
    cases hq1 : (E.log == 0) <;> cases hq2 : (E.next == 0)
    all_goals
      go_wp2_with fail
      all_goals
        go_meet
        refine ⟨congrArg Value.bool ?_, rfl⟩
        have hr1 := hq1
        have hr2 := hq2
        have hr3 := HN.out.2
        simp at hr1 hr2 hr3
        first | rfl | (exfalso; omega) | (simp; omega)
  case rest =>
    obtain ⟨rfl, rfl⟩ := hcut
    clear l1 l2 l3
    have k11 := B1.out.cell 1
    have k00 := B0.out.cell 0
    simp at k11 k00
    obtain ⟨F, hF⟩ : ∃ F, filesOf (flat S) = F := ⟨_, rfl⟩
    have hFl : F.length ≤ 200000000 := by rw [← hF]; simpa [filesOf] using hS
    have hfc := doc_files (flat S) _ (by omega) w5 (HV.out.same HC5.out)
    rw [hF] at hfc
    have HF := Lib.hid hF
    have HFC := Lib.hid hfc
    clear hF hfc
    go_wp2_with fail
    refine HFC.out.mono ?_
    rintro e w6 ⟨ov0, rfl, hO6, hk6, hc6⟩
    obtain ⟨oa6, oc6, rfl, _, hon6, _⟩ := i64_form hO6
    have k11 := (B1.out.chg hc6 (by simp)).cell 1
    simp at k11
    have hsz6 := hc6.size
    have HO6 := Lib.hid hO6
    have HK6 := Lib.hid hk6
    have HC6 := Lib.hid hc6
    clear hO6 hk6 hc6
    go_wp2_with fail
    go_loopw [8] (fun i wr => ∃ A R, E.drop = A ++ R ∧ i = .int .i64 A.length ∧ (∀ f ∈ A, f ∈ F) ∧ A.Nodup ∧ Chg (fun _ => False) w6 wr) (fun i _ => E.drop.length - (intOf i).toNat)
    case atStart => exact ⟨[], E.drop, rfl, rfl, by simp, by simp, Chg.refl _ _⟩
    case round =>
      obtain ⟨A, R, hL, rfl, hin, hnd, hcr⟩ := hrel
      have k11' : wr.cell? ⟨w.heap.size + 1, 1, none⟩ = some (.slice da E.drop.length dc) := (hcr.cell (p := ⟨w.heap.size + 1, 1, none⟩) (by simp; omega) (by simp)).trans k11
      have HCR := Lib.hid hcr
      have HC6R := Lib.hid (HC6.out.then hcr)
      clear hcr
      have hAl : A.length ≤ E.drop.length := by rw [hL]; simp
      cases R with
      | nil =>
        have hge : ¬ ((A.length : Int) < (E.drop.length : Int)) := by rw [hL]; simp
        have hok : okDrops (filesOf (flat S)) E.drop := by
          rw [HF.out, hL]
          simp only [List.append_nil]
          exact ⟨hin, hnd⟩
        have HOKD := Lib.hid hok
        clear hL hin hnd hok
        have k00 := (B0.out.chg HC6R.out (by simp)).cell 0
        have y12 := (B1.out.chg HC6R.out (by simp)).cell 2
        have y13 := (B1.out.chg HC6R.out (by simp)).cell 3
        have y14 := (B1.out.chg HC6R.out (by simp)).cell 4
        simp at k00 y12 y13 y14
        have hszr := HC6R.out.size
        go_wp2_with fail
        obtain ⟨w7, hw7⟩ : ∃ w7 : World, w7 = wr := ⟨_, rfl⟩
        subst hw7
        have HC7 := Lib.hid HC6R.out
        have HC67 := Lib.hid HCR.out
        clear HC6R HCR
        go_loopw [12] (fun i wr => ∃ A R ov, flat S = A ++ R ∧ i = .int .i64 A.length ∧ Blk wr w7.heap.size 32 #[ov, .int .i64 E.log, .int .i64 E.next, .int .i64 E.seq] ∧ Lst docC wr ov (keptP E.drop A) ∧ (∀ k, ov.ownBlock = some k → w7.heap.size ≤ k) ∧ Chg (fun _ => False) w7 wr) (fun i _ => (flat S).length - (intOf i).toNat)
        case atStart => exact ⟨[], flat S, _, rfl, rfl, by (first | exact Blk.new _ _ _ | exact Blk.new1 _ _ _ _ | exact Blk.new2 _ _ _ _ _ | exact Blk.drew (Blk.new _ _ _) | exact Blk.drew (Blk.new1 _ _ _ _) | exact Blk.drew (Blk.new2 _ _ _ _ _) | exact Blk.drew (Blk.drew (Blk.new _ _ _)) | exact Blk.drewN (Blk.new _ _ _) _ | exact Blk.drewN (Blk.new1 _ _ _ _) _), Lst.nil _ _, by simp [Value.ownBlock], by ((repeat (first | exact Chg.refl _ _ | assumption | refine Chg.drewN ?_ _ | refine Chg.drew ?_ | refine Chg.alloc ?_ _ | refine Chg.setCell ?_ (by first | (simp; done) | (simp; omega) | (intro h; simp at h; omega)) _)))⟩
        case round =>
          obtain ⟨A, R, ov, hL, rfl, hG, hO, hk, hcr⟩ := hrel
          have hc5r := HC7.out.then hcr
          have k00' := (B0.out.chg hc5r (by simp)).cell 0
          have k11' := (B1.out.chg hc5r (by simp)).cell 1
          simp at k00' k11'
          have hAl : A.length ≤ (flat S).length := by rw [hL]; simp
          obtain ⟨K, hK⟩ : ∃ K, keptP E.drop A = K := ⟨_, rfl⟩
          have hKl : K.length ≤ 200000000 := by
            have : K.length ≤ A.length := by rw [← hK]; exact List.length_filter_le _ _
            omega
          rw [hK] at hO
          obtain ⟨oa, oc, rfl, _, _, _⟩ := doc_form hO
          have g0 := hG.cell 0
          have fg0 := hG.frozen 0
          simp at g0
          have hne : (Value.slice oa K.length oc).ownBlock ≠ some w7.heap.size := fun e => by
            obtain ⟨cs, hb⟩ := hO.typed e
            exact hb.ne_ hG (by decide) rfl
          have hglt := hG.lt
          have HK := Lib.hid hK
          have HG := Lib.hid hG
          have HO := Lib.hid hO
          have HKF := Lib.hid hk
          have HCR := Lib.hid hcr
          have HC5R := Lib.hid hc5r
          have HNE := Lib.hid hne
          have hszr2 := hcr.size
          clear hK hG hO hk hcr hc5r hne
          cases R with
          | nil =>
            have hge : ¬ ((A.length : Int) < ((flat S).length : Int)) := by rw [hL]; simp
            have hend : keptP E.drop (flat S) = K := by rw [← HK.out, hL]; simp
            have HEND := Lib.hid hend
            clear hL hend
            obtain ⟨w8, hw8⟩ : ∃ w8 : World, w8 = wr := ⟨_, rfl⟩
            subst hw8
            go_wp2_with fail
            clear k00' k11' g0 fg0
            have HG8 := Lib.hid HG.out
            have HO8 := Lib.hid HO.out
            have HKF8 := Lib.hid HKF.out
            have HCR8 := Lib.hid HCR.out
            clear HG HO HKF HCR HC5R HNE HK
            go_loopw [14] (fun i wr => ∃ A R ov, E.add = A ++ R ∧ i = .int .i64 A.length ∧ Blk wr w7.heap.size 32 #[ov, .int .i64 E.log, .int .i64 E.next, .int .i64 E.seq] ∧ Lst docC wr ov (A.foldl withV K) ∧ (∀ k, ov.ownBlock = some k → w7.heap.size ≤ k) ∧ (∀ p ∈ A, goodP E.next p ∧ p.m.file ∉ F) ∧ (filesOf A).Nodup ∧ Chg (fun _ => False) w7 wr) (fun i _ => E.add.length - (intOf i).toNat)
            case atStart => exact ⟨[], E.add, _, rfl, rfl, HG8.out, HO8.out, HKF8.out, by simp, by simp [filesOf], HCR8.out⟩
            case round =>
              obtain ⟨A, R, ov, hL, rfl, hG, hO, hk, hgd, hnd, hcr⟩ := hrel
              have hc5r := HC7.out.then hcr
              have k10' := (B1.out.chg hc5r (by simp)).cell 0
              have k13' := (B1.out.chg hc5r (by simp)).cell 3
              simp at k10' k13'
              have hAl : A.length ≤ E.add.length := by rw [hL]; simp
              obtain ⟨M, hM⟩ : ∃ M, A.foldl withV K = M := ⟨_, rfl⟩
              have hMl : M.length ≤ 300000000 := by
                have : M.length ≤ K.length + A.length := by rw [← hM]; exact fold_with_len A K
                omega
              rw [hM] at hO
              obtain ⟨oa2, oc2, rfl, _, _, _⟩ := doc_form hO
              have g0 := hG.cell 0
              have fg0 := hG.frozen 0
              simp at g0
              have hne : (Value.slice oa2 M.length oc2).ownBlock ≠ some w7.heap.size := fun e => by
                obtain ⟨cs, hb⟩ := hO.typed e
                exact hb.ne_ hG (by decide) rfl
              have hglt := hG.lt
              have HM := Lib.hid hM
              have HG := Lib.hid hG
              have HO := Lib.hid hO
              have HKF := Lib.hid hk
              have HCR := Lib.hid hcr
              have HC5R := Lib.hid hc5r
              have HNE := Lib.hid hne
              have HGD := Lib.hid hgd
              have HND := Lib.hid hnd
              have hszr2 := hcr.size
              clear hM hG hO hk hcr hc5r hne hgd hnd
              cases R with
              | nil =>
                have hge : ¬ ((A.length : Int) < (E.add.length : Int)) := by rw [hL]; simp
                have hA0 : E.add = A := by rw [hL]; simp
                have hoka : okAdds (filesOf (flat S)) E.next E.add := by
                  rw [HF.out, hA0]
                  exact ⟨HGD.out, HND.out⟩
                have hend : M = flat (nextV S E) := by
                  rw [← HM.out, ← HEND.out, ← hA0]
                  exact doc_next S E fun p hp => ⟨(hoka.1 p hp).1.1, (hoka.1 p hp).1.2.1⟩
                have HOKA := Lib.hid hoka
                have HFIN := Lib.hid hend
                clear hL hend hoka hA0
                obtain ⟨w10, hw10⟩ : ∃ w10 : World, w10 = wr := ⟨_, rfl⟩
                subst hw10
                go_wp2_with fail
                have HG10 := Lib.hid HG.out
                have HO10 := Lib.hid HO.out
                have HKF10 := Lib.hid HKF.out
                have HC10 := Lib.hid HC5R.out
                have HCR10 := Lib.hid HCR.out
                have hsz10 := HC5R.out.size
                have hget := doc_get HO.out
                have HGET := Lib.hid hget
                clear k10' k13' g0 fg0 HG HO HKF HCR HC5R HNE HM HGD HND hget
                as_aux_lemma =>
                  go_loopw [19] (fun i wr => ∃ m : Nat, i = .int .i64 m ∧ m ≤ M.length ∧ PairsUp M m ∧ Chg (fun _ => False) w10 wr) (fun i _ => M.length - (intOf i).toNat)
                  case atStart => exact ⟨0, rfl, by omega, fun i k a b hi => by omega, Chg.refl _ _⟩
                  case round =>
                    obtain ⟨m, rfl, hm, hup, hcr⟩ := hrel
                    have hG := HG10.out.chg hcr (by simp)
                    have g0 := hG.cell 0
                    have g1 := hG.cell 1
                    have g2 := hG.cell 2
                    have g3 := hG.cell 3
                    simp at g0 g1 g2 g3
                    have HUP := Lib.hid hup
                    have HCR := Lib.hid hcr
                    have hszr3 := hcr.size
                    clear hup hcr hG
                    by_cases hlt : m < M.length
                    · have hltI : (m : Int) < (M.length : Int) := by omega
                      have hge : (0 : Int) ≤ (m : Int) := by omega
                      have hMI : (M.length : Int) ≤ 300000000 := by omega
                      obtain ⟨wo, hwo⟩ : ∃ wo : World, wo = wr := ⟨_, rfl⟩
                      subst hwo
                      go_wp2_with fail
                      go_loopw [20] (fun i wr => ∃ n : Nat, i = .int .i64 n ∧ n ≤ m ∧ RowUp M m n ∧ Chg (fun _ => False) w10 wr) (fun i _ => m - (intOf i).toNat)
                      case atStart => exact ⟨0, rfl, by omega, fun k a b hi => by omega, HCR.out⟩
                      case round =>
                        obtain ⟨n, rfl, hn, hrow, hcr2⟩ := hrel
                        have hG := HG10.out.chg hcr2 (by simp)
                        have v0 := hG.cell 0
                        simp at v0
                        have HROW := Lib.hid hrow
                        have HCR2 := Lib.hid hcr2
                        have hszr4 := hcr2.size
                        clear hrow hG
                        by_cases hlt2 : n < m
                        · have hi2 : n < M.length := by omega
                          have hlt2I : (n : Int) < (m : Int) := by omega
                          have hlt3I : (n : Int) < (M.length : Int) := by omega
                          have hge2 : (0 : Int) ≤ (n : Int) := by omega
                          have ha1 := List.getElem?_eq_getElem hlt
                          have hb1 := List.getElem?_eq_getElem hi2
                          obtain ⟨_, _, e0, _, _, hget⟩ := HGET.out
                          injection e0 with e1 e2 e3
                          subst e1 e3
                          obtain ⟨b, rfl, hb, _, z0, z1, z2, z3, z4⟩ := hget m _ ha1
                          obtain ⟨b2, e5, _, _, q0, q1, q2, q3, q4⟩ := hget n _ hb1
                          injection e5 with e5
                          injection e5 with e5
                          subst e5
                          have z0' := (hcr2.cell (p := ⟨b, m * 5, none⟩) hb (by simp)).trans z0
                          have z1' := (hcr2.cell (p := ⟨b, m * 5 + 1, none⟩) hb (by simp)).trans z1
                          have z2' := (hcr2.cell (p := ⟨b, m * 5 + 2, none⟩) hb (by simp)).trans z2
                          have z3' := (hcr2.cell (p := ⟨b, m * 5 + 3, none⟩) hb (by simp)).trans z3
                          have z4' := (hcr2.cell (p := ⟨b, m * 5 + 4, none⟩) hb (by simp)).trans z4
                          have q0' := (hcr2.cell (p := ⟨b, n * 5, none⟩) hb (by simp)).trans q0
                          have q1' := (hcr2.cell (p := ⟨b, n * 5 + 1, none⟩) hb (by simp)).trans q1
                          have q2' := (hcr2.cell (p := ⟨b, n * 5 + 2, none⟩) hb (by simp)).trans q2
                          have q3' := (hcr2.cell (p := ⟨b, n * 5 + 3, none⟩) hb (by simp)).trans q3
                          have q4' := (hcr2.cell (p := ⟨b, n * 5 + 4, none⟩) hb (by simp)).trans q4
                          have hblt : b < wr.heap.size := by omega
                          have hGlt : w7.heap.size < wr.heap.size := by have := HG10.out.lt; omega
                          have HA1 := Lib.hid ha1
                          have HB1 := Lib.hid hb1
                          generalize M[m] = pa at *
                          generalize M[n] = pb at *
                          obtain ⟨al, af, az, alo, ahi⟩ := pa
                          obtain ⟨bl, bf, bz, blo, bhi⟩ := pb
                          simp only at z0' z1' z2' z3' z4' q0' q1' q2' q3' q4'
                          have hs1 := sl_leq alo bhi
                          have hs2 := sl_leq blo ahi
                          unfold sl at hs1 hs2
                          clear hget z0 z1 z2 z3 z4 q0 q1 q2 q3 q4 ha1 hb1 hcr2
                          go_upto_region 41 with fail
                          go_cut [21, 22, 242] (fun p p2 c wx => ∃ b : Bool, p = .pointer (some ⟨wr.heap.size, 0, none⟩) ∧ p2 = .pointer (some ⟨wr.heap.size + 1, 0, none⟩) ∧ c = .bool b ∧ (b = true ↔ clash ⟨al, af, az, alo, ahi⟩ ⟨bl, bf, bz, blo, bhi⟩) ∧ (wr.alloc (.cells #[.int .i64 al, .int .i64 af, .int .i64 az, .string alo, .string ahi] 120)).alloc (.cells #[.int .i64 bl, .int .i64 bf, .int .i64 bz, .string blo, .string bhi] 120) = wx)
                          case first =>
                            cases hb1 : Op.bytesLess bhi.toList alo.toList <;> cases hb2 : Op.bytesLess ahi.toList blo.toList
                            all_goals
                              rw [hb1] at hs1
                              rw [hb2] at hs2
                              go_wp2_with fail
                              all_goals
                                go_meet
                                refine ⟨_, rfl, rfl, rfl, ?_, ?_⟩
                                · first | (simp [clash, sl, hb1, hb2]; done) | (simp [clash, sl, hb1, hb2]; omega) | (simp [clash, sl, hb1, hb2, *]; done)
                                · first | rfl | (simp [*]; done)
                          case rest =>
                            obtain ⟨bb, rfl, rfl, rfl, hbb, rfl⟩ := hcut
                            cases bb with
                            | true =>
                              clear hbb
                              have hbase : Chg (fun _ => False) w5 ((wr.alloc (.cells #[.int .i64 al, .int .i64 af, .int .i64 az, .string alo, .string ahi] 120)).alloc (.cells #[.int .i64 bl, .int .i64 bf, .int .i64 bz, .string blo, .string bhi] 120)) := HC10.out.then ((HCR2.out.alloc _).alloc _)
                              have y0 := (B3.out.chg hbase (by simp)).cell 0
                              have y1 := (B3.out.chg hbase (by simp)).cell 1
                              have y2 := (B3.out.chg hbase (by simp)).cell 2
                              have y3 := (B3.out.chg hbase (by simp)).cell 3
                              have x0 := (B2.out.chg hbase (by simp)).cell 0
                              have x1 := (B2.out.chg hbase (by simp)).cell 1
                              have x2 := (B2.out.chg hbase (by simp)).cell 2
                              have x3 := (B2.out.chg hbase (by simp)).cell 3
                              have f0 := (B2.out.chg hbase (by simp)).frozen 0
                              have f1 := (B2.out.chg hbase (by simp)).frozen 1
                              have f2 := (B2.out.chg hbase (by simp)).frozen 2
                              have f3 := (B2.out.chg hbase (by simp)).frozen 3
                              simp at y0 y1 y2 y3 x0 x1 x2 x3
                              have HBS := Lib.hid (Chg.then HC5.out hbase)
                              clear hbase
                              go_wp2_with fail
                              refine bodyPost_ret (v := .tuple #[.agg #[.slice none 0 0, .int .i64 0, .int .i64 0, .int .i64 0], .int .i64 17]) (by simp [results, Tryz.results23, go_sem, x0, x1, x2, x3]) rfl ⟨?_, .inr ⟨HNO.out, rfl⟩⟩
                              have := HBS.out
                              ((repeat (first | with_reducible exact Chg.refl _ _ | with_reducible assumption | with_reducible refine Chg.drewN ?_ _ | with_reducible refine Chg.drew ?_ | with_reducible refine Chg.alloc ?_ _ | with_reducible refine Chg.setCell ?_ (by first | (simp; done) | (simp; omega) | (intro h; simp at h; omega)) _)))
                            | false =>
                              have hrow2 : RowUp M m (n + 1) := HROW.out.next HA1.out HB1.out fun h => by have := hbb.2 h; cases this
                              have HROW2 := Lib.hid hrow2
                              clear hrow2 hbb
                              go_wp2_with fail
                              go_roundw
                              case rel => exact ⟨n + 1, by go_num, by omega, HROW2.out, (HCR2.out.alloc _).alloc _⟩
                              case measure => simp [intOf]; omega
                        · have hge3 : ¬ (n : Int) < (m : Int) := by omega
                          obtain rfl : n = m := by omega
                          have hup2 := HUP.out.next HROW.out
                          have HUP2 := Lib.hid hup2
                          clear hup2 hcr2
                          go_wp2_with fail
                          go_roundw
                          case rel => exact ⟨n + 1, by go_num, by omega, HUP2.out, HCR2.out⟩
                          case measure => simp [intOf]; omega
                    · have hge3 : ¬ (m : Int) < (M.length : Int) := by omega
                      obtain rfl : m = M.length := by omega
                      exact absurd (pairs_ok HFIN.out HUP.out) HBAD.out
              | cons x B =>
                obtain ⟨b, rfl, hb, _, z0, z1, z2, z3, z4⟩ := HAR.out A x B hL
                have hc0r := HC5.out.then HC5R.out
                have z0' := (hc0r.cell (p := ⟨b, A.length * 5, none⟩) hb (by simp)).trans z0
                have z1' := (hc0r.cell (p := ⟨b, A.length * 5 + 1, none⟩) hb (by simp)).trans z1
                have z2' := (hc0r.cell (p := ⟨b, A.length * 5 + 2, none⟩) hb (by simp)).trans z2
                have z3' := (hc0r.cell (p := ⟨b, A.length * 5 + 3, none⟩) hb (by simp)).trans z3
                have z4' := (hc0r.cell (p := ⟨b, A.length * 5 + 4, none⟩) hb (by simp)).trans z4
                have hlt : (A.length : Int) < (E.add.length : Int) := by rw [hL]; simp; omega
                have hge : (0 : Int) ≤ (A.length : Int) := by omega
                have hAc : (A.length : Int) ≤ (ac : Int) := by omega
                have hAc2 : A.length ≤ ac := by omega
                have hL2 : E.add = (A ++ [x]) ++ B := by rw [hL]; simp
                have HL2 := Lib.hid hL2
                have HL := Lib.hid hL
                have hblt : b < wr.heap.size := by have := hc0r.size; omega
                have hwlt : w.heap.size + 1 < wr.heap.size := by have := HC5R.out.size; omega
                clear hL hL2 z0 z1 z2 z3 z4 hc0r
                obtain ⟨xl, xf, xs, xlo, xhi⟩ := x
                simp only at z0' z1' z2' z3' z4'
                have hsle := sl_leq xlo xhi
                unfold sl at hsle
                have hmx : (⟨xl, xf, xs, xlo, xhi⟩ : PlaceV) ∈ E.add := by rw [HL.out]; simp
                have hgood : goodP E.next ⟨xl, xf, xs, xlo, xhi⟩ := (HADDS.out.1 _ hmx).1
                have HGOOD := Lib.hid hgood
                obtain ⟨p0, p1, p2, p3, p4, p5⟩ := hgood
                simp only at p0 p1 p2 p3 p4 p5
                unfold sl at p5
                rw [p5] at hsle
                have hx : hasB F xf = false := (hasB_no F xf).2 fun h => (HADDS.out.1 _ hmx).2 (by rw [HF.out]; exact h)
                have hxF := (hasB_no F xf).1 hx
                have hbx := Blk.new wr 120 #[.int .i64 xl, .int .i64 xf, .int .i64 xs, .string xlo, .string xhi]
                have i1 := hbx.cell 1
                simp at i1
                have h1 := fun W (h : Lst i64C W (.slice oa6 F.length oc6) F) => doc_has F xf _ W h
                have hcut : Lst docC w5 (.slice (some ⟨b, 0, none⟩) A.length ac) A := by
                  obtain ⟨a', c', e1, e2⟩ := (HA.out.same HC5.out).cut_room docOk hAl
                  injection e1 with e3 e4 e5
                  rw [← e3, ← e5] at e2
                  rwa [HL.out, List.take_left] at e2
                have HCUT := Lib.hid hcut
                obtain ⟨N, hN⟩ : ∃ N, filesOf A = N := ⟨_, rfl⟩
                have hfi := fun W (h : Lst docC W (.slice (some ⟨b, 0, none⟩) A.length ac) A) => doc_files A _ (by omega) W h
                rw [hN] at hfi
                have HFI := Lib.hid hfi
                have HN' := Lib.hid hN
                have h2 := fun W v (h : Lst i64C W v N) => doc_has N xf v W h
                have hy : hasB N xf = false := (hasB_no N xf).2 fun h => by
                  have := HADDS.out.2
                  rw [HL.out, List.map_append, List.nodup_append] at this
                  exact this.2.2 xf (by rw [← HN'.out] at h; exact h) xf (by simp) rfl
                rw [hx] at h1
                have H1 := Lib.hid h1
                clear hcut hfi hN hbx hmx i1
                have hyN := (hasB_no N xf).1 hy
                have hgd2 : ∀ p ∈ A ++ [⟨xl, xf, xs, xlo, xhi⟩], goodP E.next p ∧ p.m.file ∉ F := fun p hp => by
                  rcases List.mem_append.1 hp with h | h
                  · exact HGD.out p h
                  · simp at h; subst h; exact ⟨HGOOD.out, hxF⟩
                have hnd2 : (filesOf (A ++ [⟨xl, xf, xs, xlo, xhi⟩])).Nodup := by
                  show (List.map _ _).Nodup
                  rw [List.map_append, List.nodup_append]
                  refine ⟨HND.out, by simp, fun a ha c hc e => ?_⟩
                  simp at hc; subst hc; subst e
                  exact hyN (by rw [← HN'.out]; exact ha)
                have HGD2 := Lib.hid hgd2
                have HND2 := Lib.hid hnd2
                obtain ⟨M2, hM2⟩ : ∃ M2, withV M ⟨xl, xf, xs, xlo, xhi⟩ = M2 := ⟨_, rfl⟩
                have hwi := fun W v (h : Lst docC W v M) => doc_with M ⟨xl, xf, xs, xlo, xhi⟩ v (by omega) W h
                rw [hM2] at hwi
                have HM2 := Lib.hid hM2
                have HWI := Lib.hid hwi
                rw [hy] at h2
                have H2 := Lib.hid h2
                clear hx h1 h2 hy hxF hyN hgd2 hnd2 hwi hM2
                go_wp2_with fail
                refine (H1.out _ (HO6.out.same (HC67.out.then (HCR.out.alloc _)))).mono ?_
                rintro e w' ⟨rfl, rfl⟩
                go_wp2_with fail
                refine (HFI.out _ (HCUT.out.same (HC5R.out.alloc _))).mono ?_
                rintro e wf ⟨nv, rfl, hNv, hkN, hcN⟩
                obtain ⟨na, nc, rfl, _, _, _⟩ := i64_form hNv
                have hcf : Chg (fun _ => False) wr wf := Chg.then (by ((repeat (first | exact Chg.refl _ _ | assumption | refine Chg.drewN ?_ _ | refine Chg.drew ?_ | refine Chg.alloc ?_ _ | refine Chg.setCell ?_ (by first | (simp; done) | (simp; omega) | (intro h; simp at h; omega)) _)))) hcN
                have hbx : Blk wf wr.heap.size 120 #[.int .i64 xl, .int .i64 xf, .int .i64 xs, .string xlo, .string xhi] := (Blk.new wr _ _).chg hcN (by simp)
                have j0 := hbx.cell 0
                have j1 := hbx.cell 1
                have j2 := hbx.cell 2
                have j3 := hbx.cell 3
                have j4 := hbx.cell 4
                simp at j0 j1 j2 j3 j4
                have HNV := Lib.hid hNv
                have HCF := Lib.hid hcf
                clear hNv hkN hcN hcf hbx
                have g1 := (HG.out.chg HCF.out (by simp)).cell 0
                simp at g1
                go_wp2_with fail
                refine (H2.out _ _ HNV.out).mono ?_
                rintro e w' ⟨rfl, rfl⟩
                go_wp2_with fail
                refine (HWI.out _ _ (HO.out.same HCF.out)).mono ?_
                rintro e w9 ⟨v9, rfl, hO9, hk9, hc9⟩
                obtain ⟨a9, c9, rfl, _, _, _⟩ := doc_form hO9
                have hcr9 : Chg (fun _ => False) wr w9 := HCF.out.then hc9
                have hG9 := HG.out.chg hcr9 (by simp)
                have g9 := hG9.cell 0
                have f9 := hG9.frozen 0
                simp at g9
                have hsf := HCF.out.size
                have hput := field_put (i := 0) (C := docC) hG9 (by decide) (HCR.out.then hcr9) (by omega) (ov := .slice none 0 0) (by simp [Value.ownBlock]) (by simp [Value.ownBlock]) hO9 (Chg.refl _ _)
                obtain ⟨hG5, hO5, hc5⟩ := hput
                have hkk : ∀ k, (Value.slice a9 M2.length c9).ownBlock = some k → w7.heap.size ≤ k := fun k hk => by have := hk9 k hk; omega
                have HG5 := Lib.hid hG5
                have HO5 := Lib.hid hO5
                have HC5' := Lib.hid hc5
                have HKK := Lib.hid hkk
                clear hO9 hk9 hc9 hcr9 hG9 hG5 hO5 hc5 hkk
                go_wp2_with fail
                go_roundw
                case rel => exact ⟨A ++ [⟨xl, xf, xs, xlo, xhi⟩], B, _, HL2.out, by simp, HG5.out, by rw [List.foldl_append, HM.out]; have := HM2.out; simp only [List.foldl_cons, List.foldl_nil]; rw [this]; exact HO5.out, HKK.out, HGD2.out, HND2.out, HC5'.out⟩
                case measure => simp [intOf]; omega
          | cons x B =>
            obtain ⟨b, rfl, hb, _, z0, z1, z2, z3, z4⟩ := HVR.out A x B hL
            have hc0r := HC5.out.then HC5R.out
            have z0' := (hc0r.cell (p := ⟨b, A.length * 5, none⟩) hb (by simp)).trans z0
            have z1' := (hc0r.cell (p := ⟨b, A.length * 5 + 1, none⟩) hb (by simp)).trans z1
            have z2' := (hc0r.cell (p := ⟨b, A.length * 5 + 2, none⟩) hb (by simp)).trans z2
            have z3' := (hc0r.cell (p := ⟨b, A.length * 5 + 3, none⟩) hb (by simp)).trans z3
            have z4' := (hc0r.cell (p := ⟨b, A.length * 5 + 4, none⟩) hb (by simp)).trans z4
            have hlt : (A.length : Int) < ((flat S).length : Int) := by rw [hL]; simp; omega
            have hge : (0 : Int) ≤ (A.length : Int) := by omega
            have hL2 : flat S = (A ++ [x]) ++ B := by rw [hL]; simp
            have HL2 := Lib.hid hL2
            have hblt : b < wr.heap.size := by have := hc0r.size; omega
            have h1 := fun W (h : Lst i64C W (.slice da E.drop.length dc) E.drop) => doc_has E.drop x.m.file _ W h
            cases hx : hasB E.drop x.m.file with
            | true =>
              have hkp : keptP E.drop (A ++ [x]) = K := by
                rw [← HK.out, keptP_append]
                have hm := (hasB_iff _ _).1 hx
                have : keptP E.drop [x] = [] := by simp [keptP, hm]
                rw [this, List.append_nil]
              have HKP := Lib.hid hkp
              rw [hx] at h1
              have H1 := Lib.hid h1
              clear hL hL2 z0 z1 z2 z3 z4 hc0r h1 hx hkp
              go_wp2_with fail
              go_quiet ((go_at_call 85; refine quiet_same (H1.out _ ?_); exact HD.out.same ((HC5.out.then HC5R.out).drewN _)))
              go_wp2_with fail
              go_roundw
              case rel => exact ⟨A ++ [x], B, _, HL2.out, by simp, HG.out.drewN _, by rw [HKP.out]; exact HO.out.same (by ((repeat (first | exact Chg.refl _ _ | assumption | refine Chg.drewN ?_ _ | refine Chg.drew ?_ | refine Chg.alloc ?_ _ | refine Chg.setCell ?_ (by first | (simp; done) | (simp; omega) | (intro h; simp at h; omega)) _)))), HKF.out, HCR.out.drewN _⟩
              case measure => simp [intOf]; omega
            | false =>
              have hkp : keptP E.drop (A ++ [x]) = K ++ [x] := by
                rw [← HK.out, keptP_append]
                have hm := (hasB_no _ _).1 hx
                have : keptP E.drop [x] = [x] := by simp [keptP, hm]
                rw [this]
              have HKP := Lib.hid hkp
              rw [hx] at h1
              have H1 := Lib.hid h1
              clear hL hL2 z0 z1 z2 z3 z4 hc0r h1 hx hkp
              go_wp2_with fail
              go_quiet ((go_at_call 85; refine quiet_same (H1.out _ ?_); exact HD.out.same ((HC5.out.then HC5R.out).drewN _)))
              go_wp2_with fail
              obtain ⟨wq, hwq⟩ : ∃ wq, wq = wr.drewN nq := ⟨_, rfl⟩
              rw [← hwq]
              have hcq : Chg (fun _ => False) wr wq := by rw [hwq]; ((repeat (first | exact Chg.refl _ _ | assumption | refine Chg.drewN ?_ _ | refine Chg.drew ?_ | refine Chg.alloc ?_ _ | refine Chg.setCell ?_ (by first | (simp; done) | (simp; omega) | (intro h; simp at h; omega)) _)))
              have q0 : wq.cell? ⟨w7.heap.size, 0, none⟩ = some (.slice oa K.length oc) := by rw [hwq]; exact g0
              have qf : wq.frozen? ⟨w7.heap.size, 0, none⟩ = false := by rw [hwq]; exact fg0
              have q00 : wq.cell? ⟨w.heap.size, 0, none⟩ = some (.slice (some ⟨b, 0, none⟩) (flat S).length vc) := by rw [hwq]; exact k00'
              have p0 : wq.cell? ⟨b, A.length * 5, none⟩ = some (.int .i64 x.level) := by rw [hwq]; exact z0'
              have p1 : wq.cell? ⟨b, A.length * 5 + 1, none⟩ = some (.int .i64 x.m.file) := by rw [hwq]; exact z1'
              have p2 : wq.cell? ⟨b, A.length * 5 + 2, none⟩ = some (.int .i64 x.m.size) := by rw [hwq]; exact z2'
              have p3 : wq.cell? ⟨b, A.length * 5 + 3, none⟩ = some (.string x.m.lo) := by rw [hwq]; exact z3'
              have p4 : wq.cell? ⟨b, A.length * 5 + 4, none⟩ = some (.string x.m.hi) := by rw [hwq]; exact z4'
              have hgq : w7.heap.size < wq.heap.size := by rw [hwq]; simpa using hglt
              have hbq : b < wq.heap.size := by rw [hwq]; simpa using hblt
              have hwlq : w.heap.size < wq.heap.size := by rw [hwq]; simp; omega
              have HCQ := Lib.hid hcq
              have HGQ := Lib.hid (HG.out.chg hcq (by simp))
              have HOQ := Lib.hid (HO.out.same hcq)
              have HCRQ := Lib.hid (HCR.out.then hcq)
              have hszq : w7.heap.size ≤ wq.heap.size := by omega
              clear hwq hcq g0 fg0 k00' k11' z0' z1' z2' z3' z4'
              go_region_law ((refine step_lst_app docOk _ (by rfl) _ _ (by rfl) K (.slice oa K.length oc) x (by rfl) (HOQ.out.same (by ((repeat (first | exact Chg.refl _ _ | assumption | refine Chg.drewN ?_ _ | refine Chg.drew ?_ | refine Chg.alloc ?_ _ | refine Chg.setCell ?_ (by first | (simp; done) | (simp; omega) | (intro h; simp at h; omega)) _))))) _ (by rfl) (by omega) (by (first | exact Blk.new _ _ _ | exact Blk.new1 _ _ _ _ | exact Blk.new2 _ _ _ _ _ | exact Blk.drew (Blk.new _ _ _) | exact Blk.drew (Blk.new1 _ _ _ _) | exact Blk.drew (Blk.new2 _ _ _ _ _) | exact Blk.drew (Blk.drew (Blk.new _ _ _)) | exact Blk.drewN (Blk.new _ _ _) _ | exact Blk.drewN (Blk.new1 _ _ _ _) _)) ?_; intro v' w4 hO4 hg4 hb4; obtain ⟨a4, p4, rfl, _, _, _⟩ := doc_form hO4; have hg4' : Chg (fun k => (Value.slice oa K.length oc).ownBlock = some k) wq w4 := Chg.then (by ((repeat (first | exact Chg.refl _ _ | assumption | refine Chg.drewN ?_ _ | refine Chg.drew ?_ | refine Chg.alloc ?_ _ | refine Chg.setCell ?_ (by first | (simp; done) | (simp; omega) | (intro h; simp at h; omega)) _)))) hg4; have f4 := (hg4'.frozen (p := ⟨w7.heap.size, 0, none⟩) hgq HNE.out).trans qf; have c4 := (hg4'.cell (p := ⟨w7.heap.size, 0, none⟩) hgq HNE.out).trans q0; have hb4' : ∀ k, (Value.slice a4 _ p4).ownBlock = some k → w7.heap.size ≤ k := fun k hk => (hb4 k hk).elim (fun e => HKF.out k e) (fun e => by simp at e; omega); have HO4 := Lib.hid hO4; have HG4 := Lib.hid hg4'; have HB4 := Lib.hid hb4'; clear hO4 hg4 hb4 hb4' hg4'))
              all_goals
                obtain ⟨n4, hn0⟩ : ∃ n4, K.length + 1 = n4 := ⟨_, rfl⟩
                have hn4 : (K ++ [x]).length = n4 := by rw [List.length_append, List.length_singleton]; exact hn0
                rw [hn0]
                have hput := field_put (i := 0) HGQ.out (C := docC) (by decide) HCRQ.out (by omega) HKF.out HNE.out HO4.out HG4.out
                rw [hn4] at hput
                obtain ⟨hG5, hO5, hc5⟩ := hput
                obtain ⟨w6', hw6'⟩ : ∃ w6', w6' = w4.setCell ⟨w7.heap.size, 0, none⟩ (.slice a4 n4 p4) := ⟨_, rfl⟩
                rw [← hw6'] at hG5 hO5 hc5
                have HG5 := Lib.hid hG5
                have HO5 := Lib.hid hO5
                have HC5' := Lib.hid hc5
                have hB5 := HB4.out
                rw [hn4] at hB5
                have HB5 := Lib.hid hB5
                rw [← hw6']
                clear hG5 hO5 hc5 hw6' f4 c4 hB5 hn4 hn0
                go_wp2_with fail
                go_roundw
                case rel => exact ⟨A ++ [x], B, _, HL2.out, by simp, HG5.out, by rw [HKP.out]; exact HO5.out, HB5.out, HC5'.out⟩
                case measure => simp [intOf]; omega
      | cons x B =>
        obtain ⟨b, rfl, hb, _, z0⟩ := HDR.out A x B hL
        have z0' := ((HC5.out.then HC6R.out).cell (p := ⟨b, A.length, none⟩) hb (by simp)).trans z0
        have hlt : (A.length : Int) < (E.drop.length : Int) := by rw [hL]; simp; omega
        have hge : (0 : Int) ≤ (A.length : Int) := by omega
        have hAc : (A.length : Int) ≤ (dc : Int) := by omega
        have hAc2 : A.length ≤ dc := by omega
        have hL2 : E.drop = (A ++ [x]) ++ B := by rw [hL]; simp
        have HL := Lib.hid hL
        have HL2 := Lib.hid hL2
        have h1 := fun W (h : Lst i64C W (.slice oa6 F.length oc6) F) => doc_has F x _ W h
        have hmx : x ∈ E.drop := by rw [HL.out]; simp
        have hxF : x ∈ F := by have := HDR0.out.1 x hmx; rwa [HF.out] at this
        have hx : hasB F x = true := (hasB_iff F x).2 hxF
        have hy : hasB A x = false := (hasB_no A x).2 fun h => by
          have := HDR0.out.2
          rw [HL.out, List.nodup_append] at this
          exact this.2.2 x h x (by simp) rfl
        rw [hx] at h1
        have H1 := Lib.hid h1
        clear hmx
        have h2 := fun W (h : Lst i64C W (.slice (some ⟨b, 0, none⟩) A.length dc) A) => doc_has A x _ W h
        have hcut : Lst i64C w5 (.slice (some ⟨b, 0, none⟩) A.length dc) A := by
          obtain ⟨a', c', e1, e2⟩ := (HD.out.same HC5.out).cut_room i64Ok hAl
          injection e1 with e3 e4 e5
          rw [← e3, ← e5] at e2
          rwa [HL.out, List.take_left] at e2
        have HCUT := Lib.hid hcut
        have hin2 : ∀ f ∈ A ++ [x], f ∈ F := fun f hf => by
          rcases List.mem_append.1 hf with h | h
          · exact hin f h
          · simp at h; subst h; exact hxF
        have hnd2 : (A ++ [x]).Nodup := by
          rw [List.nodup_append]
          exact ⟨hnd, by simp, fun a ha c hc e => by simp at hc; subst hc; subst e; exact (hasB_no A a).1 hy ha⟩
        have HIN2 := Lib.hid hin2
        have HND2 := Lib.hid hnd2
        rw [hy] at h2
        have H2 := Lib.hid h2
        clear hL hL2 h1 h2 hcut hx hy hxF hin hnd hin2 hnd2 z0
        go_wp2_with fail
        refine (H1.out _ (HO6.out.same HCR.out)).mono ?_
        rintro e w' ⟨rfl, rfl⟩
        go_wp2_with fail
        go_quiet ((go_at_call 85; refine quiet_same (H2.out _ ?_); exact HCUT.out.same (HC6R.out.drewN _)))
        go_wp2_with fail
        go_roundw
        case rel => exact ⟨A ++ [x], B, HL2.out, by simp, HIN2.out, HND2.out, HCR.out.drewN _⟩
        case measure => simp [intOf]; omega
end Go.Proofs.YtahahginmgidjaaGreatDoor
