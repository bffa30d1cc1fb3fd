/-
  The document's disk: SyncDir.
-/
import Derived.Test.YtjfbcjmnjlehaaaGreatDoorZRdJ
namespace Go.Proofs.YtjfbcjmnjlehaaaGreatDoor
open Go.RowKit
set_option linter.unusedVariables false
set_option linter.unusedSimpArgs false

section
variable (r : Nat) (D : DiskV) (M : Nat → Prop) (hsm : RSmall D) (w : World) (h : RAt w r D M)
include hsm h
set_option maxRecDepth 100000 in
set_option maxHeartbeats 4000000 in
theorem rd_syncdir : Calls Tryz.prog 34 #[.pointer (some ⟨r, 0, none⟩)] w fun e w' => e = .returned (.int .i64 (syncDirD D).1) ∧ RPost w r M (syncDirD D).2 w' := by
  have hat := h
  obtain ⟨hok, y, hin, hce⟩ := h
  obtain ⟨_, _, _, _, _, c5, _⟩ := rin_cells hin
  have hsame : ∀ W, Chg (fun _ => False) w W → RPost w r M D W := fun W hW => RPost.same (hat.same hW) hat.lt (hW.mono (by simp))
  have HS := Lib.hid hsame
  unfold syncDirD
  cases ho : D.off with
  | true =>
    rw [ho] at c5
    clear hin hok ho hat hsame hsm hce
    go_enter Tryz.func34, Tryz.ntmps34
    go_wp2_with fail
    go_ret
    exact ⟨rfl, HS.out _ (Chg.refl _ _)⟩
  | false =>
    rw [ho] at c5
    simp only [Bool.false_eq_true, if_false]
    rw [change_false]
    have htrap := rd_trap r D y M hok w hin
    have hceT := cut_trapped hok hce
    have hcut := cut_of hce
    have htw := trapN_ways D
    have hokT := trapped_ok hok
    have hsmT : RSmall (trapped D) := ⟨hsm.q, hsm.f, hsm.n, hsm.l, hsm.s⟩
    have hokS : DiskOk (syncDirA (trapped D)) := syncDir_ok hokT
    have hsmS : RSmall (syncDirA (trapped D)) := ⟨by simp [syncDirA], hsm.f, hsm.n, hsm.n, by simp [syncDirA]⟩
    have hlt := hin.lt
    have hMr : M r := hin.mine r (.inl rfl)
    obtain ⟨tn, htn⟩ : ∃ tn, tn = trapN D := ⟨_, rfl⟩
    obtain ⟨T, hTe⟩ : ∃ T, T = trapped D := ⟨_, rfl⟩
    rw [← hTe] at htrap hceT hokT hsmT hokS hsmS ⊢
    have hcutT : tn = 1 → y.cn = T.cutN ∧ y.cb = T.cutB := by rw [htn, hTe]; exact hcut
    rw [← htn] at htrap htw ⊢
    have HT := Lib.hid htrap
    have HLT := Lib.hid hlt
    have HM := Lib.hid hMr
    have HST := Lib.hid hsmT
    clear ho hat hsame hsm htrap hlt hMr htn hTe hin hcut hok hce
    rcases htw with rfl | rfl | rfl
    · have hfin := fun W y' M' hW (hcn : y'.cn = y.cn) (hcb : y'.cb = y.cb) => rd_finish r (syncDirA T) y' M' 0 hokS hsmS (by simp) (fun hne => by rw [hcn, hcb]; exact hceT hne) (by simp) W hW
      have hpost : ∀ w1 w2, Chg M w w1 → RPo w1 r (Mx M w w1) (finishD (syncDirA T) 0).2 w2 → RPost w r M (finishD (syncDirA T) 0).2 w2 := fun w1 w2 hc hp => (hp.more HLT.out hc).post (finish_ok hokS 0)
      have HFI := Lib.hid hfin
      have HPO := Lib.hid hpost
      clear hfin hpost hceT hokT hsmT hokS hsmS hcutT
      rw [if_pos rfl]
      go_enter Tryz.func34, Tryz.ntmps34
      go_wp2_with fail
      refine HT.out.mono ?_
      rintro e w2 ⟨rfl, hin, hc2⟩
      have f3 := hin.blk.frozen 3
      obtain ⟨_, _, c2', c3', _⟩ := rin_cells hin
      obtain ⟨na, nc, hnv, _, hnn, hnread⟩ := rnm_form hin.parts.names
      rw [ofNames_len] at hnv hnn
      have hset : Chg (fun k => k = r) w2 (w2.setCell ⟨r, 3, none⟩ (.slice none 0 0)) := Chg.setOwn (Chg.refl _ _) _ _
      obtain ⟨w5, hw5⟩ : ∃ w5, w5 = w2.setCell ⟨r, 3, none⟩ (.slice none 0 0) := ⟨_, rfl⟩
      rw [← hw5] at hset
      obtain ⟨y5, hy5⟩ : ∃ y5, y5 = ({ y with lv := .slice none 0 0 } : RLay) := ⟨_, rfl⟩
      have hb5 : Blk w5 r 72 (rCells { T with lasts := [] } y5) := by
        have := hin.blk.set_ 3 (.slice none 0 0)
        rw [hw5, hy5]
        simpa [rCells] using this
      have hb50 : Blk w5 r 72 (rCells T { y5 with lv := .slice none 0 0 }) := by
        have := hin.blk.set_ 3 (.slice none 0 0)
        rw [hw5, hy5]
        simpa [rCells] using this
      have HB50 := Lib.hid hb50
      clear hb50
      have hp5 := hin.own hset
      have hI5 : RIn w5 r { T with lasts := [] } y5 M := by
        rw [hy5] at hb5 ⊢
        refine ⟨hb5, ⟨hp5.files, hp5.names, Own.nil _ _ _, hp5.queue, hp5.cutb⟩, hin.cnb, ?_, fun k hk => Nat.lt_of_lt_of_le (hin.lt k hk) hset.size⟩
        have hm := hin.mine
        rintro k (e | e | e | e | e | e | e)
        · exact hm k (.inl e)
        · exact hm k (.inr (.inl e))
        · exact hm k (.inr (.inr (.inl e)))
        · simp [Value.ownBlock] at e
        · exact hm k (.inr (.inr (.inr (.inr (.inl e)))))
        · exact hm k (.inr (.inr (.inr (.inr (.inr (.inl e))))))
        · exact hm k (.inr (.inr (.inr (.inr (.inr (.inr e))))))
      have hnv5 : y5.nv = .slice na T.names.length nc := by rw [hy5]; exact hnv
      have hyc : y5.cn = y.cn ∧ y5.cb = y.cb := by rw [hy5]; exact ⟨rfl, rfl⟩
      have hc5 : Chg M w w5 := ((hc2.then hset).mono fun k _ e => by rw [e]; exact HM.out)
      have hnl : (T.names.length : Int) ≤ 1000000 := by have := HST.out.n; omega
      have HI5 := Lib.hid hI5
      have HC5 := Lib.hid hc5
      have HNV := Lib.hid hnv5
      have HYC := Lib.hid hyc
      have HW5 := Lib.hid hw5
      clear hin hc2 hnread hset hb5 hp5 hI5 hc5 hnv5 hy5 hyc hw5 hnv HT
      go_wp2_with fail
      rw [← HW5.out]
      clear f3 c2' c3' HW5
      go_loopw [4] (fun i wr => ∃ (q : Nat) (lv : Value), q ≤ T.names.length ∧ i = .int .i64 q ∧ RNm wr lv (ofNames (T.names.take q)) ∧ (∀ k, lv.ownBlock = some k → w5.heap.size ≤ k) ∧ Blk wr r 72 (rCells T { y5 with lv := lv }) ∧ Chg (fun k => k = r) w5 wr) (fun i _ => T.names.length - (intOf i).toNat)
      case atStart => exact ⟨0, .slice none 0 0, by omega, rfl, Own.nil _ _ _, by simp [Value.ownBlock], HB50.out, Chg.refl _ _⟩
      case round =>
        obtain ⟨q, lv, hq, rfl, hnm, hnk, hbl, hc2⟩ := hrel
        obtain ⟨la, lc, rfl, _, hnn2, _⟩ := rnm_form hnm
        have hntl : (ofNames (T.names.take q)).length = q := by rw [ofNames_len]; simp; omega
        rw [hntl] at hbl hnk
        have hnm' : RNm wr (.slice la q lc) (ofNames (T.names.take q)) := by rw [hntl] at hnm; exact hnm
        have c2' := hbl.cell 2
        have c3' := hbl.cell 3
        have c4' := hbl.cell 4
        have f3 := hbl.frozen 3
        have f4 := hbl.frozen 4
        simp [rCells] at c2' c3' c4'
        rw [HNV.out] at c2'
        have hrl2 := hbl.lt
        by_cases hlt2 : q < T.names.length
        · have hlt2' : (q : Int) < (T.names.length : Int) := by omega
          have hge2 : (0 : Int) ≤ (q : Int) := by omega
          obtain ⟨na', nc', he, _, _, hrd⟩ := rnm_form HI5.out.parts.names
          simp only at he hrd
          obtain ⟨nb, hb', hnb, hnbo, y0, y1⟩ := hrd _ _ _ (ofNames_at T.names q hlt2)
          rw [HNV.out, hb'] at he
          injection he with he1 he2 he3
          subst he1
          have hnr0 : ¬ nb = r := by
            obtain ⟨cs, hb⟩ := Own.typed HI5.out.parts.names hnbo
            exact hb.ne_ HI5.out.blk (by decide)
          rw [show (ofNames (T.names.take q)).length = q from hntl] at y0 y1
          have z0' := (hc2.cell (p := ⟨nb, q * 2, none⟩) hnb hnr0).trans y0
          have z1' := (hc2.cell (p := ⟨nb, q * 2 + 1, none⟩) hnb hnr0).trans y1
          have hnx := ofNames_take T.names q hlt2
          have hnr : ∀ k, (Value.slice la q lc).ownBlock = some k → k ≠ r := fun k hk => by
            obtain ⟨cs, hb⟩ := Own.typed hnm' hk
            exact hb.ne_ hbl (by decide)
          have HNM := Lib.hid hnm'
          have HNK := Lib.hid hnk
          have HBL := Lib.hid hbl
          have HC2 := Lib.hid hc2
          have HNX := Lib.hid hnx
          have HNR := Lib.hid hnr
          have hql2 : (ofNames (T.names.take q)).length ≤ 2000000000 := by omega
          clear hnm hnm' hnk hbl hc2 y0 y1 hnx hnr hntl hrd hb' he2 he3 hnbo c4' f4
          generalize hq1 : T.names[q].1 = q1 at *
          generalize hq2 : (T.names[q].2 : Int) = q2 at *
          clear hq1 hq2
          go_wp2_with fail
          go_region_law ((refine step_rnm_append _ (by rfl) _ _ (by rfl) (ofNames (T.names.take q)) (.slice la q lc) (q1, q2) (by rfl) (HNM.out.same (by ((repeat (first | exact Chg.refl _ _ | assumption | refine Chg.drewN ?_ _ | refine Chg.drew ?_ | refine Chg.alloc ?_ _ | refine Chg.setCell ?_ (by first | (simp; done) | (simp; omega) | (intro h; simp at h; omega)) _))))) _ (by rfl) hql2 (by first | exact Blk.new _ _ _ | exact Blk.drew (Blk.new _ _ _)) ?_; intro v' w4 hO4 hg4 hb4; obtain ⟨a4, p4, rfl, _, _, _⟩ := rnm_form hO4; have hrn4 : ¬ (Value.slice la q lc).ownBlock = some r := fun e => HNR.out r e rfl; have hg4' : Chg (fun k => (Value.slice la q lc).ownBlock = some k) wr w4 := Chg.then (by ((repeat (first | exact Chg.refl _ _ | assumption | refine Chg.drewN ?_ _ | refine Chg.drew ?_ | refine Chg.alloc ?_ _ | refine Chg.setCell ?_ (by first | (simp; done) | (simp; omega) | (intro h; simp at h; omega)) _)))) hg4; have f4 := (hg4'.frozen (p := ⟨r, 3, none⟩) hrl2 hrn4).trans f3; have c4 := (hg4'.cell (p := ⟨r, 3, none⟩) hrl2 hrn4).trans c3'; have hb4' : ∀ k, (Value.slice a4 _ p4).ownBlock = some k → (Value.slice la q lc).ownBlock = some k ∨ wr.heap.size ≤ k := fun k hk => (hb4 k hk).imp id (fun e => by simp at e; omega); have HO4 := Lib.hid hO4; have HG4 := Lib.hid hg4'; have HB4 := Lib.hid hb4'; clear hO4 hg4 hb4 hb4' hg4'))
          all_goals
            obtain ⟨nl, hnl2⟩ : ∃ nl, nl = (ofNames (T.names.take q)).length + 1 := ⟨_, rfl⟩
            have hO5 := HO4.out
            have hB4 := HB4.out
            rw [List.length_append, List.length_singleton, ← hnl2] at hO5 hB4
            rw [HNX.out] at hO5
            rw [← hnl2]
            obtain ⟨w6, hw6⟩ : ∃ w6, w6 = w4.setCell ⟨r, 3, none⟩ (.slice a4 nl p4) := ⟨_, rfl⟩
            have hset : Chg (fun k => k = r) w4 w6 := by rw [hw6]; exact Chg.setOwn (Chg.refl _ _) _ _
            have hbl4 := HBL.out.chg HG4.out hrn4
            have hO6 := RNm.chg hO5 hset (fun k hk e => by
              obtain ⟨cs, hb⟩ := Own.typed hO5 hk
              exact hb.ne_ hbl4 (by decide) e)
            have hbl6 : Blk w6 r 72 (rCells T { y5 with lv := .slice a4 nl p4 }) := by
              have := hbl4.set_ 3 (.slice a4 nl p4)
              rw [hw6]
              simpa [rCells] using this
            have hc6 : Chg (fun k => k = r) w5 w6 := (HC2.out.trans HG4.out (fun k hk e => by have := HNK.out k e; omega)).then hset
            have hs52 := HC2.out.size
            have hk6 : ∀ k, (Value.slice a4 nl p4).ownBlock = some k → w5.heap.size ≤ k := fun k hk => by
              rcases hB4 k hk with e | e
              · exact HNK.out k e
              · omega
            have HO6 := Lib.hid hO6
            have HBL6 := Lib.hid hbl6
            have HC6 := Lib.hid hc6
            have HK6 := Lib.hid hk6
            rw [← hw6]
            clear hO5 hB4 hset hbl4 hO6 hbl6 hc6 hk6 hw6 HB4 HG4 HO4 HBL HNK HNM f4 c4 hnl2 z0' z1' c2' c3' f3 hs52
            go_wp2_with fail
            exact ⟨⟨q + 1, _, by omega, by go_num, HO6.out, HK6.out, HBL6.out, HC6.out⟩, by simp [intOf]; omega⟩
        · obtain rfl : q = T.names.length := by omega
          have hge2 : ¬ ((T.names.length : Int) < (T.names.length : Int)) := by omega
          obtain ⟨w7, hw7⟩ : ∃ w7, w7 = wr.setCell ⟨r, 4, none⟩ (.slice none 0 0) := ⟨_, rfl⟩
          have hset7 : Chg (fun k => k = r) wr w7 := by rw [hw7]; exact Chg.setOwn (Chg.refl _ _) _ _
          have hc57 := hc2.then hset7
          have hb7 := hbl.set_ 4 (.slice none 0 0)
          rw [← hw7] at hb7
          have hcw : Chg M w w7 := HC5.out.trans hc57 fun k _ e => by rw [e]; exact HM.out
          have hI7 : RIn w7 r (syncDirA T) { y5 with lv := .slice la T.names.length lc, qv := .slice none 0 0, qs := [] } (Mx M w w7) := by
            have hp := HI5.out.own hc57
            rw [List.take_length] at hnm'
            have hs2 := hc57.size
            have hs5 := HC5.out.size
            have hn7 := RNm.chg hnm' hset7 (fun k hk e => by
              obtain ⟨cs, hb⟩ := Own.typed hnm' hk
              exact hb.ne_ hbl (by decide) e)
            refine ⟨by simpa [rCells, syncDirA] using hb7, ⟨hp.files, hp.names, hn7, ⟨Own.nil _ _ _, by simp [syncDirA]⟩, hp.cutb⟩, HI5.out.cnb, ?_, mx_lt HLT.out (by omega)⟩
            have hm := HI5.out.mine
            rintro k (e | e | e | e | e | ⟨j, e⟩ | e)
            · exact .inl (hm k (.inl e))
            · exact .inl (hm k (.inr (.inl e)))
            · exact .inl (hm k (.inr (.inr (.inl e))))
            · exact .inr ⟨by have := hnk k e; omega, Own.lt hn7 e⟩
            · simp [Value.ownBlock] at e
            · simp [blockAt] at e
            · exact .inl (hm k (.inr (.inr (.inr (.inr (.inr (.inr e)))))))
          have HI7 := Lib.hid hI7
          have HCW := Lib.hid hcw
          have HW7 := Lib.hid hw7
          clear hnm hnm' hnk hbl hc2 hset7 hc57 hb7 hI7 hcw hw7 HI5 HC5 hntl
          go_wp2_with fail
          rw [← HW7.out]
          refine (HFI.out _ _ _ HI7.out HYC.out.1 HYC.out.2).mono ?_
          rintro e w8 ⟨rfl, hp⟩
          have HP := Lib.hid (HPO.out _ _ HCW.out hp)
          clear hp
          go_wp2_with fail
          go_ret
          exact ⟨rfl, HP.out⟩
    · have hfin := fun W hW => rd_finish r T y M 1 hokT hsmT hcutT hceT (by simp) W hW
      have hpost : ∀ w1 w2, Chg M w w1 → RPo w1 r M (finishD T 1).2 w2 → RPost w r M (finishD T 1).2 w2 := fun w1 w2 hc hp => hp.step HLT.out hc (finish_ok hokT 1)
      have HFI := Lib.hid hfin
      have HPO := Lib.hid hpost
      clear hfin hpost hceT hokT hsmT hokS hsmS hcutT
      rw [if_neg (by decide)]
      go_enter Tryz.func34, Tryz.ntmps34
      go_wp2_with fail
      refine HT.out.mono ?_
      rintro e w2 ⟨rfl, hi2, hc2⟩
      have hcm : Chg M w w2 := hc2.mono fun k _ e => by rw [e]; exact HM.out
      have HI2 := Lib.hid hi2
      have HCM := Lib.hid hcm
      clear hi2 hc2 hcm
      go_wp2_with fail
      refine (HFI.out _ HI2.out).mono ?_
      rintro e w3 ⟨rfl, hp⟩
      have HP := Lib.hid (HPO.out _ _ HCM.out hp)
      clear hp
      go_wp2_with fail
      go_ret
      exact ⟨rfl, HP.out⟩
    · have hfin := fun W hW => rd_finish r T y M 2 hokT hsmT (by simp) hceT (by simp) W hW
      have hpost : ∀ w1 w2, Chg M w w1 → RPo w1 r M (finishD T 2).2 w2 → RPost w r M (finishD T 2).2 w2 := fun w1 w2 hc hp => hp.step HLT.out hc (finish_ok hokT 2)
      have HFI := Lib.hid hfin
      have HPO := Lib.hid hpost
      clear hfin hpost hceT hokT hsmT hokS hsmS hcutT
      rw [if_neg (by decide)]
      go_enter Tryz.func34, Tryz.ntmps34
      go_wp2_with fail
      refine HT.out.mono ?_
      rintro e w2 ⟨rfl, hi2, hc2⟩
      have hcm : Chg M w w2 := hc2.mono fun k _ e => by rw [e]; exact HM.out
      have HI2 := Lib.hid hi2
      have HCM := Lib.hid hcm
      clear hi2 hc2 hcm
      go_wp2_with fail
      refine (HFI.out _ HI2.out).mono ?_
      rintro e w3 ⟨rfl, hp⟩
      have HP := Lib.hid (HPO.out _ _ HCM.out hp)
      clear hp
      go_wp2_with fail
      go_ret
      exact ⟨rfl, HP.out⟩
end
end Go.Proofs.YtjfbcjmnjlehaaaGreatDoor
