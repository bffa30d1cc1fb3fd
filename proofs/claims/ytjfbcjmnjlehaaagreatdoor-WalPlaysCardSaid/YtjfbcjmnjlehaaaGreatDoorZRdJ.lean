/-
  The document's disk: Append, Sync.
-/
import Derived.Test.YtjfbcjmnjlehaaaGreatDoorZRdF
import Derived.Test.YtjfbcjmnjlehaaaGreatDoorZDiskZc
namespace Go.Proofs.YtjfbcjmnjlehaaaGreatDoor
open Go.RowKit
set_option linter.unusedVariables false
set_option linter.unusedSimpArgs false

theorem set_same (l : List Value) (i : Nat) (v : Value) (h : l[i]? = some v) : l.set i v = l := by
  obtain ⟨hi, he⟩ := List.getElem?_eq_some_iff.1 h
  rw [← he]
  exact List.set_getElem_self hi
theorem flCells_setD (l : List FileV) (i : Nat) (hi : i < l.length) (x : ByteArray) : (flCells l).set (i * 2) (.string x) = flCells (l.set i ⟨x, l[i].lasts⟩) := by
  rw [← flCells_set l i hi ⟨x, l[i].lasts⟩]
  refine (set_same _ _ _ ?_).symm
  rw [List.getElem?_set_ne (by omega)]
  exact (flCells_get l i hi).2
theorem flCells_setL (l : List FileV) (i : Nat) (hi : i < l.length) (x : Nat) : (flCells l).set (i * 2 + 1) (.int .i64 x) = flCells (l.set i ⟨l[i].data, x⟩) := by
  rw [← flCells_set l i hi ⟨l[i].data, x⟩]
  congr 1
  exact (set_same _ _ _ (flCells_get l i hi).1).symm
/-- One file has other bytes. -/
theorem RIn.stData {w W : World} {r fb i : Nat} {D : DiskV} {y : RLay} {M : Nat → Prop} (h : RIn w r D y M) (hfb : y.fv.ownBlock = some fb) (hW : Chg (fun _ => False) w W) (hi : i < D.files.length) (x : ByteArray) :
    RIn (W.setCell ⟨fb, i * 2, none⟩ (.string x)) r (setF D i fun f => ⟨x, f.lasts⟩) y M ∧ Chg (fun k => k = fb) w (W.setCell ⟨fb, i * 2, none⟩ (.string x)) := by
  have hc : Chg (fun k => k = fb) w (W.setCell ⟨fb, i * 2, none⟩ (.string x)) := Chg.setOwn (hW.mono (by simp)) _ _
  refine ⟨?_, hc⟩
  have ho := (h.parts.files.same hW).stored hfb (i * 2) (.string x)
  rw [flCells_setD _ _ hi] at ho
  unfold setF
  rw [modify_set _ _ hi]
  refine h.putFiles hfb hc _ ?_
  rw [List.length_set]
  exact ho
theorem RIn.stLast {w W : World} {r fb i : Nat} {D : DiskV} {y : RLay} {M : Nat → Prop} (h : RIn w r D y M) (hfb : y.fv.ownBlock = some fb) (hW : Chg (fun _ => False) w W) (hi : i < D.files.length) :
    RIn (W.setCell ⟨fb, i * 2 + 1, none⟩ (.int .i64 (D.files[i].data.size : Nat))) r (syncA i D) y M ∧ Chg (fun k => k = fb) w (W.setCell ⟨fb, i * 2 + 1, none⟩ (.int .i64 (D.files[i].data.size : Nat))) := by
  have hc : Chg (fun k => k = fb) w (W.setCell ⟨fb, i * 2 + 1, none⟩ (.int .i64 (D.files[i].data.size : Nat))) := Chg.setOwn (hW.mono (by simp)) _ _
  refine ⟨?_, hc⟩
  have ho := (h.parts.files.same hW).stored hfb (i * 2 + 1) (.int .i64 (D.files[i].data.size : Nat))
  rw [flCells_setL _ _ hi] at ho
  unfold syncA setF
  rw [modify_set _ _ hi]
  refine h.putFiles hfb hc _ ?_
  rw [List.length_set]
  exact ho
theorem cut_of {D : DiskV} {y : RLay} (hce : CutEq D y) (e : trapN D = 1) : y.cn = D.cutN ∧ y.cb = D.cutB := hce fun h0 => by
  have h1 : (spring D.cutL).1 = false := by rw [h0]; rfl
  unfold trapN at e
  rw [h1] at e
  cases h2 : (spring D.fullL).1 <;> rw [h2] at e <;> simp at e
theorem finish_ok {D : DiskV} (h : DiskOk D) (t : Int) : DiskOk (finishD D t).2 := by
  unfold finishD
  split
  · exact off_ok (fail_ok h _ _) true
  · split
    · exact h
    · exact h
theorem RPo.step {w w1 w2 : World} {r : Nat} {M : Nat → Prop} {D' : DiskV} (h : RPo w1 r M D' w2) (hM : ∀ k, M k → k < w.heap.size) (hc : Chg M w w1) (hok : DiskOk D') : RPost w r M D' w2 := (h.first hM hc).post hok

section
variable (r : Nat) (D : DiskV) (M : Nat → Prop) (n : ByteArray) (hsm : RSmall D) (w : World) (h : RAt w r D M)
include hsm h
set_option maxRecDepth 100000 in
set_option maxHeartbeats 4000000 in
theorem rd_sync : Calls Tryz.prog 44 #[.pointer (some ⟨r, 0, none⟩), .string n] w fun e w' => e = .returned (.int .i64 (syncD D n).1) ∧ RPost w r M (syncD D n).2 w' := by
  have hat := h
  obtain ⟨hok, y, hin, hce⟩ := h
  obtain ⟨_, _, c2, _, _, c5, _⟩ := rin_cells hin
  have hfind := fun W hW => rd_find (ofNames D.names) n y.nv W (hin.parts.names.same (w' := W) hW)
  rw [findN_eq] at hfind
  have hsame : ∀ W, Chg (fun _ => False) w W → RPost w r M D W := fun W hW => RPost.same (hat.same hW) hat.lt (hW.mono (by simp))
  have HS := Lib.hid hsame
  unfold syncD
  cases ho : D.off with
  | true =>
    rw [ho] at c5
    clear hin hfind hok ho hat hsame hsm hce
    go_enter Tryz.func44, Tryz.ntmps44
    go_wp2_with fail
    go_ret
    exact ⟨rfl, HS.out _ (Chg.refl _ _)⟩
  | false =>
    rw [ho] at c5
    cases hk : look D.names n with
    | none =>
      rw [hk] at hfind
      have HF := Lib.hid hfind
      clear hin hfind hok hk ho hat hsame hsm hce
      generalize y.nv = nv at *
      go_enter Tryz.func44, Tryz.ntmps44
      go_wp2_with fail
      refine (HF.out _ (Chg.refl _ _)).mono ?_
      rintro e w' ⟨rfl, m, rfl⟩
      go_wp2_with fail
      go_ret
      exact ⟨rfl, HS.out _ (by ((repeat (first | exact Chg.refl _ _ | assumption | refine Chg.drewN ?_ _ | refine Chg.drew ?_ | refine Chg.alloc ?_ _ | refine Chg.setCell ?_ (by first | (simp; done) | (simp; omega) | (intro h; simp at h; omega)) _))))⟩
    | some i =>
      rw [hk] at hfind
      have hi := hok.names.lt _ (look_some hk)
      have hi0 : (0 : Int) ≤ (i : Int) := by omega
      have hi1 : (i : Int) < (D.files.length : Int) := by have : i < D.files.length := hi; omega
      simp only [Bool.false_eq_true, if_false]
      rw [change_false]
      have htrap := fun W hW => rd_trap r D y M hok W (hin.same (w' := W) hW)
      have hceT := cut_trapped hok hce
      have hcut := cut_of hce
      have htw := trapN_ways D
      have hokT := trapped_ok hok
      have hsmT : RSmall (trapped D) := ⟨hsm.q, hsm.f, hsm.n, hsm.l, hsm.s⟩
      have hokS : DiskOk (syncA i (trapped D)) := setF_ok hokT fun f hf => by
        have := hokT.file f (List.mem_of_getElem? hf)
        simp only
        omega
      have hsmS : RSmall (syncA i (trapped D)) := ⟨hsm.q, by simp [syncA, setF]; exact hsm.f, hsm.n, hsm.l, hsm.s⟩
      have hlt := hin.lt
      have hMr : M r := hin.mine r (.inl rfl)
      obtain ⟨tn, htn⟩ : ∃ tn, tn = trapN D := ⟨_, rfl⟩
      rw [← htn] at htrap htw hcut ⊢
      have HF := Lib.hid hfind
      have HT := Lib.hid htrap
      have HLT := Lib.hid hlt
      have HM := Lib.hid hMr
      have HOT := Lib.hid hokT
      have HI := Lib.hid hi
      clear hfind hk ho hat hsame hsm htrap hlt hMr htn hin
      generalize y.nv = nv at *
      rcases htw with rfl | rfl | rfl
      · have hfin := fun W hW => rd_finish r (syncA i (trapped D)) y M 0 hokS hsmS (by simp) hceT (by simp) W hW
        have hpost : ∀ w1 w2, Chg M w w1 → RPo w1 r M (finishD (syncA i (trapped D)) 0).2 w2 → RPost w r M (finishD (syncA i (trapped D)) 0).2 w2 := fun w1 w2 hc hp => hp.step HLT.out hc (finish_ok hokS 0)
        have HFI := Lib.hid hfin
        have HPO := Lib.hid hpost
        clear hfin hpost hok hce hceT hcut hokT hsmT hokS hsmS
        rw [if_pos rfl]
        go_enter Tryz.func44, Tryz.ntmps44
        go_wp2_with fail
        refine (HF.out _ (Chg.refl _ _)).mono ?_
        rintro e w' ⟨rfl, m, rfl⟩
        go_wp2_with fail
        refine (HT.out _ (by ((repeat (first | exact Chg.refl _ _ | assumption | refine Chg.drewN ?_ _ | refine Chg.drew ?_ | refine Chg.alloc ?_ _ | refine Chg.setCell ?_ (by first | (simp; done) | (simp; omega) | (intro h; simp at h; omega)) _))))).mono ?_
        rintro e w2 ⟨rfl, hi2, hc2⟩
        obtain ⟨_, d1, _⟩ := rin_cells hi2
        obtain ⟨fa, fc, hfv, _, hfn, hfread⟩ := rfl_form hi2.parts.files
        obtain ⟨fb, rfl, hfb, hfo, z0, z1⟩ := hfread i HI.out
        have zf1 := hi2.parts.files.frozen hfo (i * 2 + 1)
        have hsz := (HOT.out.file _ (List.getElem_mem HI.out)).2
        have hst := fun W hW => hi2.stLast hfo (W := W) hW HI.out
        have hrl2 := hi2.blk.lt
        have hcm : Chg M w w2 := Chg.trans (by ((repeat (first | exact Chg.refl _ _ | assumption | refine Chg.drewN ?_ _ | refine Chg.drew ?_ | refine Chg.alloc ?_ _ | refine Chg.setCell ?_ (by first | (simp; done) | (simp; omega) | (intro h; simp at h; omega)) _)))) hc2 fun k _ e => by rw [e]; exact HM.out
        have hfM : M fb := hi2.mine fb (.inr (.inl hfo))
        rw [hfv] at d1
        have HST := Lib.hid hst
        have HCM := Lib.hid hcm
        have HFM := Lib.hid hfM
        clear hi2 hc2 hfread hst hcm hfM hfv hfo
        have hsz' : ((trapped D).files[i].data.size : Int) ≤ 1048576 := by have : (trapped D).files[i].data.size ≤ 1048576 := hsz; omega
        have hln : (trapped D).files.length = D.files.length := rfl
        rw [hln] at d1
        clear hln
        go_wp2_with fail
        go_region
        all_goals
          obtain ⟨hs1, hs2⟩ := HST.out w2 (Chg.refl _ _)
          have HS1 := Lib.hid hs1
          have HS2 := Lib.hid (HCM.out.trans hs2 fun k _ e => by rw [e]; exact HFM.out)
          clear hs1 hs2
          go_wp2_with fail
          refine (HFI.out _ (HS1.out.same (by ((repeat (first | exact Chg.refl _ _ | assumption | refine Chg.drewN ?_ _ | refine Chg.drew ?_ | refine Chg.alloc ?_ _ | refine Chg.setCell ?_ (by first | (simp; done) | (simp; omega) | (intro h; simp at h; omega)) _)))))).mono ?_
          rintro e w3 ⟨rfl, hp⟩
          have HP := Lib.hid (HPO.out _ _ (HS2.out.drew) hp)
          clear hp
          go_wp2_with fail
          go_ret
          exact ⟨rfl, HP.out⟩
      · have hfin := fun W hW => rd_finish r (trapped D) y M 1 hokT hsmT hcut hceT (by simp) W hW
        have hpost : ∀ w1 w2, Chg M w w1 → RPo w1 r M (finishD (trapped D) 1).2 w2 → RPost w r M (finishD (trapped D) 1).2 w2 := fun w1 w2 hc hp => hp.step HLT.out hc (finish_ok hokT 1)
        have HFI := Lib.hid hfin
        have HPO := Lib.hid hpost
        clear hfin hpost hok hce hceT hcut hokT hsmT hokS hsmS
        rw [if_neg (by decide)]
        go_enter Tryz.func44, Tryz.ntmps44
        go_wp2_with fail
        refine (HF.out _ (Chg.refl _ _)).mono ?_
        rintro e w' ⟨rfl, m, rfl⟩
        go_wp2_with fail
        refine (HT.out _ (by ((repeat (first | exact Chg.refl _ _ | assumption | refine Chg.drewN ?_ _ | refine Chg.drew ?_ | refine Chg.alloc ?_ _ | refine Chg.setCell ?_ (by first | (simp; done) | (simp; omega) | (intro h; simp at h; omega)) _))))).mono ?_
        rintro e w2 ⟨rfl, hi2, hc2⟩
        have hcm : Chg M w w2 := Chg.trans (by ((repeat (first | exact Chg.refl _ _ | assumption | refine Chg.drewN ?_ _ | refine Chg.drew ?_ | refine Chg.alloc ?_ _ | refine Chg.setCell ?_ (by first | (simp; done) | (simp; omega) | (intro h; simp at h; omega)) _)))) hc2 fun k _ e => by rw [e]; exact HM.out
        have HI2 := Lib.hid hi2
        have HCM := Lib.hid hcm
        clear hi2 hc2 hcm
        go_wp2_with fail
        refine (HFI.out _ HI2.out).mono ?_
        rintro e w3 ⟨rfl, hp⟩
        have HP := Lib.hid (HPO.out _ _ HCM.out hp)
        clear hp
        go_wp2_with fail
        go_ret
        exact ⟨rfl, HP.out⟩
      · have hfin := fun W hW => rd_finish r (trapped D) y M 2 hokT hsmT (by simp) hceT (by simp) W hW
        have hpost : ∀ w1 w2, Chg M w w1 → RPo w1 r M (finishD (trapped D) 2).2 w2 → RPost w r M (finishD (trapped D) 2).2 w2 := fun w1 w2 hc hp => hp.step HLT.out hc (finish_ok hokT 2)
        have HFI := Lib.hid hfin
        have HPO := Lib.hid hpost
        clear hfin hpost hok hce hceT hcut hokT hsmT hokS hsmS
        rw [if_neg (by decide)]
        go_enter Tryz.func44, Tryz.ntmps44
        go_wp2_with fail
        refine (HF.out _ (Chg.refl _ _)).mono ?_
        rintro e w' ⟨rfl, m, rfl⟩
        go_wp2_with fail
        refine (HT.out _ (by ((repeat (first | exact Chg.refl _ _ | assumption | refine Chg.drewN ?_ _ | refine Chg.drew ?_ | refine Chg.alloc ?_ _ | refine Chg.setCell ?_ (by first | (simp; done) | (simp; omega) | (intro h; simp at h; omega)) _))))).mono ?_
        rintro e w2 ⟨rfl, hi2, hc2⟩
        have hcm : Chg M w w2 := Chg.trans (by ((repeat (first | exact Chg.refl _ _ | assumption | refine Chg.drewN ?_ _ | refine Chg.drew ?_ | refine Chg.alloc ?_ _ | refine Chg.setCell ?_ (by first | (simp; done) | (simp; omega) | (intro h; simp at h; omega)) _)))) hc2 fun k _ e => by rw [e]; exact HM.out
        have HI2 := Lib.hid hi2
        have HCM := Lib.hid hcm
        clear hi2 hc2 hcm
        go_wp2_with fail
        refine (HFI.out _ HI2.out).mono ?_
        rintro e w3 ⟨rfl, hp⟩
        have HP := Lib.hid (HPO.out _ _ HCM.out hp)
        clear hp
        go_wp2_with fail
        go_ret
        exact ⟨rfl, HP.out⟩
end
end Go.Proofs.YtjfbcjmnjlehaaaGreatDoor
