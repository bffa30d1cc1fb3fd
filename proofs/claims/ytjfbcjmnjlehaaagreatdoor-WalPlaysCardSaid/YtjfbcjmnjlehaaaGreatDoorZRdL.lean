/-
  The document's disk: Append.
-/
import Derived.Test.YtjfbcjmnjlehaaaGreatDoorZRdJ
namespace Go.Proofs.YtjfbcjmnjlehaaaGreatDoor
open Go.RowKit
set_option linter.unusedVariables false
set_option linter.unusedSimpArgs false

section
variable (r : Nat) (D : DiskV) (M : Nat → Prop) (n s : ByteArray) (hs : s.size ≤ 140737488355328) (hsm : RSmall D) (w : World) (h : RAt w r D M)
include hsm h hs
set_option maxRecDepth 100000 in
set_option maxHeartbeats 4000000 in
theorem rd_append : Calls Tryz.prog 43 #[.pointer (some ⟨r, 0, none⟩), .string n, .string s] w fun e w' => e = .returned (.int .i64 (appendD D n s).1) ∧ RPost w r M (appendD D n s).2 w' := by
  have hat := h
  obtain ⟨hok, y, hin, hce⟩ := h
  obtain ⟨c0, c1, c2, _, _, c5, _⟩ := rin_cells hin
  have hfind := fun W hW => rd_find (ofNames D.names) n y.nv W (hin.parts.names.same (w' := W) hW)
  rw [findN_eq] at hfind
  have hused := fun W hW => rd_used r D M W (hat.same (w' := W) hW) hsm.n
  have hub := used_bound hok
  have hroom := hok.room
  have hsame : ∀ W, Chg (fun _ => False) w W → RPost w r M D W := fun W hW => RPost.same (hat.same hW) hat.lt (hW.mono (by simp))
  have HS := Lib.hid hsame
  unfold appendD
  cases ho : D.off with
  | true =>
    rw [ho] at c5
    clear hin hfind hok ho hat hsame hsm hce hused
    go_enter Tryz.func43, Tryz.ntmps43
    go_wp2_with fail
    go_ret
    exact ⟨rfl, HS.out _ (Chg.refl _ _)⟩
  | false =>
    rw [ho] at c5
    cases hk : look D.names n with
    | none =>
      rw [hk] at hfind
      have HF := Lib.hid hfind
      clear hin hfind hok hk ho hat hsame hsm hce hused
      generalize y.nv = nv at *
      go_enter Tryz.func43, Tryz.ntmps43
      go_wp2_with fail
      refine (HF.out _ (Chg.refl _ _)).mono ?_
      rintro e w' ⟨rfl, m, rfl⟩
      go_wp2_with fail
      go_ret
      exact ⟨rfl, HS.out _ (by ((repeat (first | exact Chg.refl _ _ | assumption | refine Chg.drewN ?_ _ | refine Chg.drew ?_ | refine Chg.alloc ?_ _ | refine Chg.setCell ?_ (by first | (simp; done) | (simp; omega) | (intro h; simp at h; omega)) _))))⟩
    | some i =>
      rw [hk] at hfind
      have hi := hok.names.lt _ (look_some hk)
      have hi0 : (0 : Int) ≤ (i : Int) := by omega
      have hi1 : (i : Int) < (D.files.length : Int) := by have : i < D.files.length := hi; omega
      have hdo : dataOf D i = D.files[i].data := by unfold dataOf; rw [List.getElem?_eq_getElem hi]
      have hsz : D.files[i].data.size ≤ 1048576 := (hok.file _ (List.getElem_mem hi)).2
      have hnn := hsm.n
      simp only [Bool.false_eq_true, if_false, hdo]
      obtain ⟨fa, fc, hfv, _, hfn, hfread⟩ := rfl_form hin.parts.files
      obtain ⟨fb, rfl, hfb, hfo, z0, _⟩ := hfread i hi
      rw [hfv] at c1
      by_cases hbig : 1048576 < D.files[i].data.size + s.size ∨ D.room < usedD D + s.size
      · rw [if_pos hbig]
        have HF := Lib.hid hfind
        have HU := Lib.hid hused
        generalize D.files[i].data = dt at *
        generalize usedD D = us at *
        generalize D.room = rm at *
        clear hin hfind hok hk ho hat hsame hsm hce hused hdo hfv hfread
        generalize y.nv = nv at *
        by_cases hb1 : 1048576 < dt.size + s.size
        · have hb1' : (1048576 : Int) < (dt.size : Int) + (s.size : Int) := by omega
          clear hbig
          go_enter Tryz.func43, Tryz.ntmps43
          go_wp2_with fail
          refine (HF.out _ (Chg.refl _ _)).mono ?_
          rintro e w' ⟨rfl, m, rfl⟩
          go_wp2_with fail
          refine (HU.out _ (by ((repeat (first | exact Chg.refl _ _ | assumption | refine Chg.drewN ?_ _ | refine Chg.drew ?_ | refine Chg.alloc ?_ _ | refine Chg.setCell ?_ (by first | (simp; done) | (simp; omega) | (intro h; simp at h; omega)) _))))).mono ?_
          rintro e w' ⟨rfl, m2, rfl⟩
          go_wp2_with fail
          go_ret
          exact ⟨rfl, HS.out _ (by ((repeat (first | exact Chg.refl _ _ | assumption | refine Chg.drewN ?_ _ | refine Chg.drew ?_ | refine Chg.alloc ?_ _ | refine Chg.setCell ?_ (by first | (simp; done) | (simp; omega) | (intro h; simp at h; omega)) _))))⟩
        · have hb1' : (dt.size : Int) + (s.size : Int) ≤ 1048576 := by omega
          have hb2 : rm < us + (s.size : Int) := by omega
          clear hbig
          go_enter Tryz.func43, Tryz.ntmps43
          go_wp2_with fail
          refine (HF.out _ (Chg.refl _ _)).mono ?_
          rintro e w' ⟨rfl, m, rfl⟩
          go_wp2_with fail
          refine (HU.out _ (by ((repeat (first | exact Chg.refl _ _ | assumption | refine Chg.drewN ?_ _ | refine Chg.drew ?_ | refine Chg.alloc ?_ _ | refine Chg.setCell ?_ (by first | (simp; done) | (simp; omega) | (intro h; simp at h; omega)) _))))).mono ?_
          rintro e w' ⟨rfl, m2, rfl⟩
          go_wp2_with fail
          go_ret
          exact ⟨rfl, HS.out _ (by ((repeat (first | exact Chg.refl _ _ | assumption | refine Chg.drewN ?_ _ | refine Chg.drew ?_ | refine Chg.alloc ?_ _ | refine Chg.setCell ?_ (by first | (simp; done) | (simp; omega) | (intro h; simp at h; omega)) _))))⟩
      · rw [if_neg hbig]
        have hb1 : (D.files[i].data.size : Int) + (s.size : Int) ≤ 1048576 := by omega
        have hb2 : usedD D + (s.size : Int) ≤ D.room := by omega
        clear hbig
        rw [change_true]
        have htrap := fun W hW => rd_trap r D y M hok W (hin.same (w' := W) hW)
        have hceT := cut_trapped hok hce
        have hcut := cut_of hce
        have htw := trapN_ways D
        have hokT := trapped_ok hok
        have hsmT : RSmall (trapped D) := ⟨hsm.q, hsm.f, hsm.n, hsm.l, hsm.s⟩
        have hTd : (trapped D).files[i]'hi = D.files[i] := rfl
        have hokS : DiskOk (appendA i s (trapped D)) := setF_ok hokT fun f hf => by
          have h1 := hokT.file f (List.mem_of_getElem? hf)
          have h2 : f = D.files[i] := by
            have := (List.getElem?_eq_some_iff.1 hf).2
            rw [← this]
            rfl
          rw [h2]
          rw [h2] at h1
          simp only [ByteArray.size_append]
          have : D.files[i].data.size + s.size ≤ 1048576 := by omega
          omega
        have hsmS : RSmall (appendA i s (trapped D)) := ⟨hsm.q, by simp [appendA, setF]; exact hsm.f, hsm.n, hsm.l, hsm.s⟩
        have hlt := hin.lt
        have hMr : M r := hin.mine r (.inl rfl)
        obtain ⟨tn, htn⟩ : ∃ tn, tn = trapN D := ⟨_, rfl⟩
        rw [← htn] at htrap htw hcut ⊢
        have HF := Lib.hid hfind
        have HU := Lib.hid hused
        have HT := Lib.hid htrap
        have HLT := Lib.hid hlt
        have HM := Lib.hid hMr
        have HOT := Lib.hid hokT
        have hiT : i < (trapped D).files.length := hi
        have HI := Lib.hid hiT
        clear hfind hk ho hat hsame hsm htrap hlt hMr htn hin hused hfv hfread hdo hfo
        generalize y.nv = nv at *
        generalize usedD D = us at *
        have hz1 : ∀ W, Chg (fun k => k = r) w W → W.cell? ⟨fb, i * 2, none⟩ = w.cell? ⟨fb, i * 2, none⟩ → True := fun _ _ _ => trivial
        clear hz1
        rcases htw with rfl | rfl | rfl
        · have hfin := fun W hW => rd_finish r (appendA i s (trapped D)) y M 0 hokS hsmS (by simp) hceT (by simp) W hW
          have hpost : ∀ w1 w2, Chg M w w1 → RPo w1 r M (finishD (appendA i s (trapped D)) 0).2 w2 → RPost w r M (finishD (appendA i s (trapped D)) 0).2 w2 := fun w1 w2 hc hp => hp.step HLT.out hc (finish_ok hokS 0)
          have HFI := Lib.hid hfin
          have HPO := Lib.hid hpost
          clear hfin hpost hok hce hceT hcut hokT hsmT hokS hsmS hTd
          rw [if_neg (by decide)]
          go_enter Tryz.func43, Tryz.ntmps43
          go_wp2_with fail
          refine (HF.out _ (Chg.refl _ _)).mono ?_
          rintro e w' ⟨rfl, m, rfl⟩
          go_wp2_with fail
          refine (HU.out _ (by ((repeat (first | exact Chg.refl _ _ | assumption | refine Chg.drewN ?_ _ | refine Chg.drew ?_ | refine Chg.alloc ?_ _ | refine Chg.setCell ?_ (by first | (simp; done) | (simp; omega) | (intro h; simp at h; omega)) _))))).mono ?_
          rintro e w' ⟨rfl, m2, rfl⟩
          go_wp2_with fail
          refine (HT.out _ (by ((repeat (first | exact Chg.refl _ _ | assumption | refine Chg.drewN ?_ _ | refine Chg.drew ?_ | refine Chg.alloc ?_ _ | refine Chg.setCell ?_ (by first | (simp; done) | (simp; omega) | (intro h; simp at h; omega)) _))))).mono ?_
          rintro e w2 ⟨rfl, hi2, hc2⟩
          obtain ⟨_, d1, _⟩ := rin_cells hi2
          obtain ⟨fa2, fc2, hfv2, _, hfn2, hfread2⟩ := rfl_form hi2.parts.files
          obtain ⟨fb2, rfl, hfb2, hfo2, y0, y1⟩ := hfread2 i HI.out
          have zf1 := hi2.parts.files.frozen hfo2 (i * 2)
          have hst := fun W hW => hi2.stData hfo2 (W := W) hW HI.out ((trapped D).files[i].data ++ s)
          have happ : (setF (trapped D) i fun f => ⟨(trapped D).files[i].data ++ s, f.lasts⟩) = appendA i s (trapped D) := by
            unfold appendA setF
            rw [modify_set _ _ HI.out, modify_set _ _ HI.out]
            rfl
          rw [happ] at hst
          have hrl2 := hi2.blk.lt
          have hcm : Chg M w w2 := Chg.trans (by ((repeat (first | exact Chg.refl _ _ | assumption | refine Chg.drewN ?_ _ | refine Chg.drew ?_ | refine Chg.alloc ?_ _ | refine Chg.setCell ?_ (by first | (simp; done) | (simp; omega) | (intro h; simp at h; omega)) _)))) hc2 fun k _ e => by rw [e]; exact HM.out
          have hfM : M fb2 := hi2.mine fb2 (.inr (.inl hfo2))
          rw [hfv2] at d1
          have HST := Lib.hid hst
          have HCM := Lib.hid hcm
          have HFM := Lib.hid hfM
          clear hi2 hc2 hfread2 hst hcm hfM hfv2 hfo2 happ z0
          have hln : (trapped D).files.length = D.files.length := rfl
          rw [hln] at d1
          clear hln
          have hb1' : ((trapped D).files[i].data.size : Int) + (s.size : Int) ≤ 1048576 := hb1
          go_wp2_with fail
          go_region
          all_goals
            obtain ⟨hs1, hs2⟩ := HST.out w2 (Chg.refl _ _)
            have HS1 := Lib.hid hs1
            have HS2 := Lib.hid (HCM.out.trans hs2 fun k _ e => by rw [e]; exact HFM.out)
            clear hs1 hs2
            go_wp2_with fail
            refine (HFI.out _ (HS1.out.same (by ((repeat (first | exact Chg.refl _ _ | assumption | refine Chg.drewN ?_ _ | refine Chg.drew ?_ | refine Chg.alloc ?_ _ | refine Chg.setCell ?_ (by first | (simp; done) | (simp; omega) | (intro h; simp at h; omega)) _)))))).mono ?_
            rintro e w3 ⟨rfl, hp⟩
            have HP := Lib.hid (HPO.out _ _ (HS2.out.drew) hp)
            clear hp
            go_wp2_with fail
            go_ret
            exact ⟨rfl, HP.out⟩
        · have hfin := fun W hW => rd_finish r (appendA i s (trapped D)) y M 1 hokS hsmS hcut hceT (by simp) W hW
          have hpost : ∀ w1 w2, Chg M w w1 → RPo w1 r M (finishD (appendA i s (trapped D)) 1).2 w2 → RPost w r M (finishD (appendA i s (trapped D)) 1).2 w2 := fun w1 w2 hc hp => hp.step HLT.out hc (finish_ok hokS 1)
          have HFI := Lib.hid hfin
          have HPO := Lib.hid hpost
          clear hfin hpost hok hce hceT hcut hokT hsmT hokS hsmS hTd
          rw [if_neg (by decide)]
          go_enter Tryz.func43, Tryz.ntmps43
          go_wp2_with fail
          refine (HF.out _ (Chg.refl _ _)).mono ?_
          rintro e w' ⟨rfl, m, rfl⟩
          go_wp2_with fail
          refine (HU.out _ (by ((repeat (first | exact Chg.refl _ _ | assumption | refine Chg.drewN ?_ _ | refine Chg.drew ?_ | refine Chg.alloc ?_ _ | refine Chg.setCell ?_ (by first | (simp; done) | (simp; omega) | (intro h; simp at h; omega)) _))))).mono ?_
          rintro e w' ⟨rfl, m2, rfl⟩
          go_wp2_with fail
          refine (HT.out _ (by ((repeat (first | exact Chg.refl _ _ | assumption | refine Chg.drewN ?_ _ | refine Chg.drew ?_ | refine Chg.alloc ?_ _ | refine Chg.setCell ?_ (by first | (simp; done) | (simp; omega) | (intro h; simp at h; omega)) _))))).mono ?_
          rintro e w2 ⟨rfl, hi2, hc2⟩
          obtain ⟨_, d1, _⟩ := rin_cells hi2
          obtain ⟨fa2, fc2, hfv2, _, hfn2, hfread2⟩ := rfl_form hi2.parts.files
          obtain ⟨fb2, rfl, hfb2, hfo2, y0, y1⟩ := hfread2 i HI.out
          have zf1 := hi2.parts.files.frozen hfo2 (i * 2)
          have hst := fun W hW => hi2.stData hfo2 (W := W) hW HI.out ((trapped D).files[i].data ++ s)
          have happ : (setF (trapped D) i fun f => ⟨(trapped D).files[i].data ++ s, f.lasts⟩) = appendA i s (trapped D) := by
            unfold appendA setF
            rw [modify_set _ _ HI.out, modify_set _ _ HI.out]
            rfl
          rw [happ] at hst
          have hrl2 := hi2.blk.lt
          have hcm : Chg M w w2 := Chg.trans (by ((repeat (first | exact Chg.refl _ _ | assumption | refine Chg.drewN ?_ _ | refine Chg.drew ?_ | refine Chg.alloc ?_ _ | refine Chg.setCell ?_ (by first | (simp; done) | (simp; omega) | (intro h; simp at h; omega)) _)))) hc2 fun k _ e => by rw [e]; exact HM.out
          have hfM : M fb2 := hi2.mine fb2 (.inr (.inl hfo2))
          rw [hfv2] at d1
          have HST := Lib.hid hst
          have HCM := Lib.hid hcm
          have HFM := Lib.hid hfM
          clear hi2 hc2 hfread2 hst hcm hfM hfv2 hfo2 happ z0
          have hln : (trapped D).files.length = D.files.length := rfl
          rw [hln] at d1
          clear hln
          have hb1' : ((trapped D).files[i].data.size : Int) + (s.size : Int) ≤ 1048576 := hb1
          go_wp2_with fail
          go_region
          all_goals
            obtain ⟨hs1, hs2⟩ := HST.out w2 (Chg.refl _ _)
            have HS1 := Lib.hid hs1
            have HS2 := Lib.hid (HCM.out.trans hs2 fun k _ e => by rw [e]; exact HFM.out)
            clear hs1 hs2
            go_wp2_with fail
            refine (HFI.out _ (HS1.out.same (by ((repeat (first | exact Chg.refl _ _ | assumption | refine Chg.drewN ?_ _ | refine Chg.drew ?_ | refine Chg.alloc ?_ _ | refine Chg.setCell ?_ (by first | (simp; done) | (simp; omega) | (intro h; simp at h; omega)) _)))))).mono ?_
            rintro e w3 ⟨rfl, hp⟩
            have HP := Lib.hid (HPO.out _ _ (HS2.out.drew) hp)
            clear hp
            go_wp2_with fail
            go_ret
            exact ⟨rfl, HP.out⟩
        · have hfin := fun W hW => rd_finish r (trapped D) y M 2 hokT hsmT (by simp) hceT (by simp) W hW
          have hpost : ∀ w1 w2, Chg M w w1 → RPo w1 r M (finishD (trapped D) 2).2 w2 → RPost w r M (finishD (trapped D) 2).2 w2 := fun w1 w2 hc hp => hp.step HLT.out hc (finish_ok hokT 2)
          have HFI := Lib.hid hfin
          have HPO := Lib.hid hpost
          clear hfin hpost hok hce hceT hcut hokT hsmT hokS hsmS hTd
          rw [if_pos rfl]
          go_enter Tryz.func43, Tryz.ntmps43
          go_wp2_with fail
          refine (HF.out _ (Chg.refl _ _)).mono ?_
          rintro e w' ⟨rfl, m, rfl⟩
          go_wp2_with fail
          refine (HU.out _ (by ((repeat (first | exact Chg.refl _ _ | assumption | refine Chg.drewN ?_ _ | refine Chg.drew ?_ | refine Chg.alloc ?_ _ | refine Chg.setCell ?_ (by first | (simp; done) | (simp; omega) | (intro h; simp at h; omega)) _))))).mono ?_
          rintro e w' ⟨rfl, m2, rfl⟩
          go_wp2_with fail
          refine (HT.out _ (by ((repeat (first | exact Chg.refl _ _ | assumption | refine Chg.drewN ?_ _ | refine Chg.drew ?_ | refine Chg.alloc ?_ _ | refine Chg.setCell ?_ (by first | (simp; done) | (simp; omega) | (intro h; simp at h; omega)) _))))).mono ?_
          rintro e w2 ⟨rfl, hi2, hc2⟩
          have hcm : Chg M w w2 := Chg.trans (by ((repeat (first | exact Chg.refl _ _ | assumption | refine Chg.drewN ?_ _ | refine Chg.drew ?_ | refine Chg.alloc ?_ _ | refine Chg.setCell ?_ (by first | (simp; done) | (simp; omega) | (intro h; simp at h; omega)) _)))) hc2 fun k _ e => by rw [e]; exact HM.out
          have HI2 := Lib.hid hi2
          have HCM := Lib.hid hcm
          clear hi2 hc2 hcm
          go_wp2_with fail
          refine (HFI.out _ HI2.out).mono ?_
          rintro e w3 ⟨rfl, hp⟩
          have HP := Lib.hid (HPO.out _ _ HCM.out hp)
          clear hp
          go_wp2_with fail
          go_ret
          exact ⟨rfl, HP.out⟩
end
end Go.Proofs.YtjfbcjmnjlehaaaGreatDoor
