/-
  The document's disk: names.
-/
import Derived.Test.YtjfbcjmnjlehaaaGreatDoorZRdF
namespace Go.Proofs.YtjfbcjmnjlehaaaGreatDoor
open Go.RowKit
set_option linter.unusedVariables false
set_option linter.unusedSimpArgs false

def namesA (s : StepV) (D : DiskV) : DiskV := { D with names := doStep D.names s, queue := if s = [] then D.queue else D.queue ++ [s] }
theorem names_ok {D : DiskV} {s : StepV} (h : DiskOk D) (hs : StepOk s D.files.length) : DiskOk (namesA s D) :=
  ⟨h.names.doStep hs, h.lasts, fun t ht => by
      unfold namesA at ht
      split at ht
      · exact h.queue t ht
      · rcases List.mem_append.1 ht with ht | ht
        · exact h.queue t ht
        · simp at ht; subst ht; exact hs, h.file, h.room, h.cutL, h.fullL, h.cutN, h.cutB⟩
/-- Bounds that leave a call its room. -/
structure RSm (D : DiskV) : Prop where
  q : D.queue.length ≤ 900000
  f : D.files.length ≤ 900000
  n : D.names.length ≤ 900000
  l : D.lasts.length ≤ 900000
  s : ∀ s ∈ D.queue, s.length ≤ 2
theorem RSm.small {D : DiskV} (h : RSm D) : RSmall D := ⟨by have := h.q; omega, by have := h.f; omega, by have := h.n; omega, by have := h.l; omega, h.s⟩
theorem names_small {D : DiskV} {s : StepV} (h : RSm D) (hs : s.length ≤ 2) : RSmall (namesA s D) := by
  refine ⟨?_, by have := h.f; show D.files.length ≤ _; omega, ?_, by have := h.l; show D.lasts.length ≤ _; omega, fun t ht => ?_⟩
  · have := h.q
    unfold namesA
    simp only
    split
    · omega
    · simp; omega
  · have := doStep_len s D.names
    have := h.n
    show (doStep D.names s).length ≤ _
    omega
  · unfold namesA at ht
    simp only at ht
    split at ht
    · exact h.s t ht
    · rcases List.mem_append.1 ht with ht | ht
      · exact h.s t ht
      · simp at ht; subst ht; exact hs
theorem info_rdone : (Tryz.prog.info? 140).map (fun i => (i.zero, i.size, i.bytes)) = some (some (.agg #[.slice none 0 0]), 1, 24) := by kernel_rfl

/-- A step is added to the queue. -/
theorem RIn.stQueue {w w2 : World} {r : Nat} {D : DiskV} {y : RLay} {M : Nat → Prop} {v' xv : Value} {s : StepV} (h : RIn w r D y M) (hg : Chg (fun k => y.qv.ownBlock = some k) w w2) (hq : Own w2 140 1 v' (D.queue.length + 1) (y.qs ++ [xv])) (hx : RNm w2 xv (ofStep s))
    (hv : ∀ k, v'.ownBlock = some k → y.qv.ownBlock = some k ∨ w.heap.size ≤ k) (hxM : ∀ k, xv.ownBlock = some k → M k) :
    RIn (w2.setCell ⟨r, 4, none⟩ v') r { D with queue := D.queue ++ [s] } { y with qv := v', qs := y.qs ++ [xv] } (Mx M w w2) ∧ Chg M w (w2.setCell ⟨r, 4, none⟩ v') := by
  have hqr := h.ne.2.2.2.1
  have hr2 := h.blk.chg hg (fun e => hqr r e rfl)
  have hset : Chg (fun k => k = r) w2 (w2.setCell ⟨r, 4, none⟩ v') := Chg.setOwn (Chg.refl _ _) _ _
  have hall : Chg (fun k => k = r ∨ y.qv.ownBlock = some k) w (w2.setCell ⟨r, 4, none⟩ v') := (hg.mono fun k _ e => .inr e).trans hset fun k _ e => .inl e
  have hs0 := hg.size
  have hm := h.mine
  have hsl : y.qs.length = D.queue.length := h.parts.queue.lenq
  obtain ⟨n1, n2, n3, n4, n5, n6⟩ := h.ne
  have dn : ∀ {t : TypeId} {k : Nat} {cs : Array Value}, Blk w k t cs → t ≠ 140 → y.qv.ownBlock = some k → False := fun hb ht e => by
    obtain ⟨cs2, hb2⟩ := h.parts.queue.own.typed e
    exact hb.ne_ hb2 ht rfl
  refine ⟨⟨?_, ⟨h.parts.files.chg hall fun k hk e => ?_, RNm.chg h.parts.names hall fun k hk e => ?_, RNm.chg h.parts.lasts hall fun k hk e => ?_, ⟨?_, fun j t ht => ?_⟩, h.parts.cutb.chg hall fun k hk e => ?_⟩, h.cnb, ?_, ?_⟩, hall.mono fun k _ e => ?_⟩
  · have := hr2.set_ 4 v'
    simpa [rCells] using this
  · rcases e with e | e
    · exact n1 k hk e
    · obtain ⟨cs, hb⟩ := h.parts.files.typed hk
      exact dn hb (by decide) e
  · rcases e with e | e
    · exact n2 k hk e
    · obtain ⟨cs, hb⟩ := Own.typed h.parts.names hk
      exact dn hb (by decide) e
  · rcases e with e | e
    · exact n3 k hk e
    · obtain ⟨cs, hb⟩ := Own.typed h.parts.lasts hk
      exact dn hb (by decide) e
  · have := hq.chg hset fun k hk e => by
      obtain ⟨cs, hb⟩ := hq.typed hk
      exact hb.ne_ hr2 (by decide) e
    simpa using this
  · by_cases hj : j < D.queue.length
    · rw [List.getElem?_append_left hj] at ht
      obtain ⟨v0, e1, ho⟩ := h.parts.queue.step j t ht
      refine ⟨v0, by rw [List.getElem?_append_left (by omega)]; exact e1, RNm.chg ho hall fun k hk e => ?_⟩
      rcases e with e | e
      · exact n5 j k (blockAt_some e1 hk) e
      · obtain ⟨cs, hb⟩ := Own.typed ho hk
        exact dn hb (by decide) e
    · rw [List.getElem?_append_right (by omega)] at ht
      have hj0 : j = D.queue.length := by
        have := (List.getElem?_eq_some_iff.1 ht).1
        simp at this; omega
      subst hj0
      simp at ht
      subst ht
      refine ⟨xv, by rw [List.getElem?_append_right (by omega), hsl]; simp, RNm.chg hx hset fun k hk e => ?_⟩
      obtain ⟨cs, hb⟩ := Own.typed hx hk
      exact hb.ne_ hr2 (by decide) e
  · rcases e with e | e
    · exact n6 k hk e
    · obtain ⟨cs, hb⟩ := h.parts.cutb.typed hk
      exact dn hb (by decide) e
  · rintro k (e | e | e | e | e | ⟨j, e⟩ | e)
    · exact .inl (hm k (.inl e))
    · exact .inl (hm k (.inr (.inl e)))
    · exact .inl (hm k (.inr (.inr (.inl e))))
    · exact .inl (hm k (.inr (.inr (.inr (.inl e)))))
    · rcases hv k e with e' | e'
      · exact .inl (hm k (.inr (.inr (.inr (.inr (.inl e'))))))
      · exact .inr ⟨e', hq.lt e⟩
    · obtain ⟨v0, e1, hv0⟩ := blockAt_inv e
      by_cases hj : j < y.qs.length
      · rw [List.getElem?_append_left hj] at e1
        exact .inl (hm k (.inr (.inr (.inr (.inr (.inr (.inl ⟨j, blockAt_some e1 hv0⟩)))))))
      · rw [List.getElem?_append_right (by omega)] at e1
        have hj0 : j - y.qs.length = 0 := by
          have := (List.getElem?_eq_some_iff.1 e1).1
          simp at this; omega
        rw [hj0] at e1
        simp at e1
        subst e1
        exact .inl (hxM k hv0)
    · exact .inl (hm k (.inr (.inr (.inr (.inr (.inr (.inr e)))))))
  · intro k hk
    have := mx_lt h.lt hs0 k hk
    simpa [World.setCell] using this
  · rcases e with e | e
    · rw [e]; exact hm r (.inl rfl)
    · exact hm k (.inr (.inr (.inr (.inr (.inl e)))))

set_option maxRecDepth 100000 in
set_option maxHeartbeats 4000000 in
theorem rd_names (r : Nat) (D : DiskV) (y : RLay) (M : Nat → Prop) (s : StepV) (xv : Value) (hok : DiskOk D) (hsm : RSm D) (hst : StepOk s D.files.length) (hs2 : s.length ≤ 2) (hce : CutEq D y) (w : World) (h : RIn w r D y M) (hx : RNm w xv (ofStep s)) (hxM : ∀ k, xv.ownBlock = some k → M k) :
    Calls Tryz.prog 97 #[.pointer (some ⟨r, 0, none⟩), .agg #[xv]] w fun e w' => e = .returned (.int .i64 (changeD D true (namesA s)).1) ∧ RPo w r M (changeD D true (namesA s)).2 w' := by
  obtain ⟨xa, xc, hxe, _, hxn, _⟩ := rnm_form hx
  rw [ofStep_len] at hxe hxn
  subst hxe
  have hlt := h.lt
  rw [change_true]
  obtain ⟨W1, hW1⟩ : ∃ W1, W1 = w.alloc (.cells #[.slice xa s.length xc] 140) := ⟨_, rfl⟩
  have hc1 : Chg (fun _ => False) w W1 := by rw [hW1]; ((repeat (first | exact Chg.refl _ _ | assumption | refine Chg.drewN ?_ _ | refine Chg.drew ?_ | refine Chg.alloc ?_ _ | refine Chg.setCell ?_ (by first | (simp; done) | (simp; omega) | (intro h; simp at h; omega)) _)))
  have hb1 : Blk W1 w.heap.size 140 #[.slice xa s.length xc] := by rw [hW1]; exact Blk.new w _ _
  have htrap := rd_trap r D y M hok W1 (h.same hc1)
  have hrl := h.blk.lt
  have hne : ¬ w.heap.size = r := by omega
  have hTcut : trapN D = 1 → y.cn = D.cutN ∧ y.cb = D.cutB := fun e => hce fun h0 => by
    have h1 : (spring D.cutL).1 = false := by rw [h0]; rfl
    unfold trapN at e
    rw [h1] at e
    cases h2 : (spring D.fullL).1 <;> rw [h2] at e <;> simp at e
  have hokT := trapped_ok hok
  have hceT := cut_trapped hok hce
  have hsmT : RSm (trapped D) := ⟨hsm.q, hsm.f, hsm.n, hsm.l, hsm.s⟩
  have hstT : StepOk s (trapped D).files.length := hst
  have hTcT : trapN D = 1 → y.cn = (trapped D).cutN ∧ y.cb = (trapped D).cutB := hTcut
  obtain ⟨tn, htn⟩ : ∃ tn, tn = trapN D := ⟨_, rfl⟩
  have htw := trapN_ways D
  obtain ⟨T, hTe⟩ : ∃ T, T = trapped D := ⟨_, rfl⟩
  rw [← hTe] at hokT hceT hsmT hstT hTcT htrap ⊢
  rw [← htn] at htrap htw hTcT ⊢
  have hokA : DiskOk (namesA s T) := names_ok hokT hstT
  have hbr := h.blk.chg hc1 (by simp)
  have hx1 := RNm.same hx hc1
  have HW1 := Lib.hid hW1
  have HC1 := Lib.hid hc1
  have HB1 := Lib.hid hb1
  have HLT := Lib.hid hlt
  have HBR := Lib.hid hbr
  have HX1 := Lib.hid hx1
  have HXM := Lib.hid hxM
  clear hTcut hTe htn hsm hst hce hok hbr hx1 hxM hW1 hc1 hb1 h hx
  have hsmA : ∀ D', D' = namesA s T → RSmall D' := fun _ e => by rw [e]; exact names_small hsmT hs2
  rcases htw with rfl | rfl | rfl
  · have HT := Lib.hid htrap
    have hnl := doStep_len s T.names
    have hnm := hsmT.n
    have hql := hsmT.q
    have hfin := fun W y' M' hW (hcn : y'.cn = y.cn) (hcb : y'.cb = y.cb) => rd_finish r (namesA s T) y' M' 0 hokA (hsmA _ rfl) (by simp) (fun hne => by rw [hcn, hcb]; exact hceT hne) (by simp) W hW
    have HF := Lib.hid hfin
    clear htrap hfin
    rw [if_neg (by decide)]
    go_enter Tryz.func97, Tryz.ntmps97
    go_wp2_with fail
    rw [← HW1.out]
    refine HT.out.mono ?_
    rintro e w2 ⟨rfl, hi2, hc2⟩
    have hcM : Chg M w w2 := (HC1.out.mono (by simp)).trans hc2 fun k _ e => by rw [e]; exact hi2.mine r (.inl rfl)
    have hb2 := HB1.out.chg hc2 hne
    have hx2 := RNm.chg HX1.out hc2 (fun k hk (e : k = r) => by
      obtain ⟨cs, hbb⟩ := Own.typed HX1.out hk
      exact hbb.ne_ HBR.out (by decide) e)
    have z0 := hb2.cell 0
    simp at z0
    obtain ⟨_, _, d2, _, d4, _⟩ := rin_cells hi2
    have f2 := hi2.blk.frozen 2
    have hrl2 := hi2.blk.lt
    have hbl2 := hb2.lt
    obtain ⟨na, nc, hnv, _, hnn, _⟩ := rnm_form hi2.parts.names
    rw [hnv] at d2
    have hall := fun W (hW : Chg (fun _ => False) w2 W) => rd_all (ofNames T.names) (ofStep s) _ (.slice xa s.length xc) (by rw [ofNames_len, ofStep_len]; omega) W (hi2.parts.names.same hW) (RNm.same hx2 hW)
    rw [allR_eq, hnv] at hall
    obtain ⟨qa, qc, hqv, hqcap, hqn, _⟩ := hi2.parts.queue.own.reads
    have hqr : ¬ (Value.slice qa T.queue.length qc).ownBlock = some r := fun e => hi2.ne.2.2.2.1 r (by rw [hqv]; exact e) rfl
    have hqbx : ¬ (Value.slice qa T.queue.length qc).ownBlock = some w.heap.size := fun e => absurd (HLT.out _ (hi2.mine w.heap.size (.inr (.inr (.inr (.inr (.inl (by rw [hqv]; exact e)))))))) (Nat.lt_irrefl _)
    have HALL := Lib.hid hall
    have HI2 := Lib.hid hi2
    have HCM := Lib.hid hcM
    have HB2 := Lib.hid hb2
    have HX2 := Lib.hid hx2
    have HNV := Lib.hid hnv
    have HQV := Lib.hid hqv
    clear hi2 hc2 hcM hb2 hx2 hall hnv HT hqv d4
    go_wp2_with fail
    go_region_law (first | (go_simp; go_at_call 110; refine (HALL.out _ (by ((repeat (first | exact Chg.refl _ _ | assumption | refine Chg.drewN ?_ _ | refine Chg.drew ?_ | refine Chg.alloc ?_ _ | refine Chg.setCell ?_ (by first | (simp; done) | (simp; omega) | (intro h; simp at h; omega)) _))))).mono ?_; rintro e w3 ⟨v3, rfl, hn3, hk3, hc3⟩; obtain ⟨a3, p3, rfl, _, _, _⟩ := rnm_form hn3; have f2' := (hc3.frozen (p := ⟨r, 2, none⟩) hrl2 (by simp)).trans f2; have d2' := (hc3.cell (p := ⟨r, 2, none⟩) hrl2 (by simp)).trans d2; have HN3 := Lib.hid hn3; have hk4 : ∀ k, _ → _ ∨ w2.heap.size ≤ k := hk3; have HK3 := Lib.hid hk4; have hc4 : Chg (fun _ => False) w2 w3 := Chg.then (by ((repeat (first | exact Chg.refl _ _ | assumption | refine Chg.drewN ?_ _ | refine Chg.drew ?_ | refine Chg.alloc ?_ _ | refine Chg.setCell ?_ (by first | (simp; done) | (simp; omega) | (intro h; simp at h; omega)) _)))) hc3; have HC3 := Lib.hid hc4; clear hn3 hk3 hk4 hc3 hc4))
    all_goals
      obtain ⟨nl, hnl3⟩ : ∃ nl, nl = (ofNames (doStep T.names s)).length := ⟨_, rfl⟩
      obtain ⟨hst4, hsc4⟩ := HI2.out.stNames HC3.out HN3.out (fun k hk => by
        rcases HK3.out k hk with e | e
        · exact .inl (HI2.out.mine k (.inr (.inr (.inl (by rw [HNV.out]; exact e)))))
        · exact .inr e)
      rw [← hnl3] at hst4 hsc4
      rw [← hnl3]
      obtain ⟨w4, hw4⟩ : ∃ w4, w4 = w3.setCell ⟨r, 2, none⟩ (.slice a3 nl p3) := ⟨_, rfl⟩
      have hs4 : w3.heap.size ≤ w4.heap.size := by rw [hw4]; simp [World.setCell]
      rw [← hw4] at hst4 hsc4
      rw [← hw4]
      obtain ⟨y4, hy4⟩ : ∃ y4, y4 = ({ y with nv := .slice a3 nl p3 } : RLay) := ⟨_, rfl⟩
      have hyq : y4.qv = .slice qa T.queue.length qc := by rw [hy4]; exact HQV.out
      have hyn : y4.cn = y.cn ∧ y4.cb = y.cb := by rw [hy4]; exact ⟨rfl, rfl⟩
      rw [← hy4] at hst4
      have hst5 := hst4.more (N := Mx M w w4) (fun k hk => by
        have := HCM.out.size
        rcases hk with e | e
        · exact .inl e
        · exact .inr ⟨by omega, by omega⟩) (mx_lt HLT.out (by have := HCM.out.size; have := hsc4.size; omega))
      have hcm4 : Chg M w w4 := HCM.out.trans hsc4 fun k _ e => by rw [e]; exact HI2.out.mine r (.inl rfl)
      have hb4 := HB2.out.chg hsc4 hne
      have hx4 := RNm.chg HX2.out hsc4 (fun k hk (e : k = r) => by
        obtain ⟨cs, hbb⟩ := Own.typed HX2.out hk
        exact hbb.ne_ HI2.out.blk (by decide) e)
      have z4 := hb4.cell 0
      simp at z4
      have hbl4 := hb4.lt
      by_cases hs : s = []
      · have hlen0 : ¬ ((0 : Int) < (s.length : Int)) := by rw [hs]; simp
        have hD : ({ T with names := doStep T.names s } : DiskV) = namesA s T := by
          unfold namesA
          rw [if_pos hs]
        rw [hD] at hst5
        have HST5 := Lib.hid hst5
        have HCM4 := Lib.hid hcm4
        have HYN := Lib.hid hyn
        clear hst4 hsc4 hst5 hcm4 hb4 hx4 hw4 hD hs HN3 HK3 HC3 f2' d2' z0 HB2 HX2 HALL hyq hyn hy4 hnl3
        go_wp2_with fail
        refine (HF.out _ _ _ HST5.out HYN.out.1 HYN.out.2).mono ?_
        rintro e w5 ⟨rfl, hp⟩
        have HP := Lib.hid hp
        clear hp
        go_wp2_with fail
        go_ret
        exact ⟨rfl, HP.out.more HLT.out HCM4.out⟩
      · have hlen0 : (0 : Int) < (s.length : Int) := by
          have : s.length ≠ 0 := fun e => hs (List.eq_nil_of_length_eq_zero e)
          omega
        obtain ⟨i0, hi0, hz0, hz1, hz2⟩ := info_parts info_rdone
        obtain ⟨_, _, _, _, d4', _⟩ := rin_cells hst5
        have f4 := hst5.blk.frozen 4
        have hrl4 := hst5.blk.lt
        have hqO : ∀ W, Chg (fun _ => False) w4 W → Own W 140 1 (.slice qa T.queue.length qc) T.queue.length y4.qs := fun W hW => by
          have := hst5.parts.queue.own.same hW
          rw [hyq] at this
          exact this
        rw [hyq] at d4'
        have HYQ := Lib.hid hyq
        have HYN := Lib.hid hyn
        have HQO := Lib.hid hqO
        have HST5 := Lib.hid hst5
        have HCM4 := Lib.hid hcm4
        have HX4 := Lib.hid hx4
        have HS := Lib.hid hs
        clear hst4 hsc4 hst5 hcm4 hb4 hx4 hw4 hs hyq hyn hy4 hqO HN3 HK3 HC3 f2' d2' z0 HB2 HX2 HALL hnl3
        go_wp2_with fail
        go_region_law ((refine step_own_append _ (by rfl) _ _ _ _ (by rfl) 140 i0 (.agg #[.slice none 0 0]) 1 24 Tryz.underlying70 hi0 hz0 hz1 hz2 rfl (.slice qa T.queue.length qc) T.queue.length y4.qs (by rfl) (HQO.out _ (by ((repeat (first | exact Chg.refl _ _ | assumption | refine Chg.drewN ?_ _ | refine Chg.drew ?_ | refine Chg.alloc ?_ _ | refine Chg.setCell ?_ (by first | (simp; done) | (simp; omega) | (intro h; simp at h; omega)) _))))) _ 1 [.slice xa s.length xc] (by rfl) (Src.ofSlice _ Tryz.underlying70 ⟨w4.heap.size, 0, none⟩ 1 1 _ rfl (World.news_of_block (cs := #[.slice xa s.length xc]) (t := 140) (fr := (0, 0)) (by first | exact heap_alloc_new _ _ | exact Blk.drew (Blk.new _ _ _))) (by simp [Value.oneCell'])) (by unfold maxLen; omega) (by omega) ?_; intro v' w5 hown5 hgrow hat; have f5 : w5.frozen? ⟨r, 4, none⟩ = false := (hgrow.frozen_far ⟨r, 4, none⟩ (by simp; omega) (fun e => hqr e.symm)).trans ((Chg.frozen (S := fun _ => False) (w := w4) (by ((repeat (first | exact Chg.refl _ _ | assumption | refine Chg.drewN ?_ _ | refine Chg.drew ?_ | refine Chg.alloc ?_ _ | refine Chg.setCell ?_ (by first | (simp; done) | (simp; omega) | (intro h; simp at h; omega)) _)))) hrl4 (by simp)).trans f4); have c5 : w5.cell? ⟨r, 4, none⟩ = some (.slice qa T.queue.length qc) := (hgrow.cell_far ⟨r, 4, none⟩ (by simp; omega) (fun e => hqr e.symm)).trans ((Chg.cell (S := fun _ => False) (w := w4) (by ((repeat (first | exact Chg.refl _ _ | assumption | refine Chg.drewN ?_ _ | refine Chg.drew ?_ | refine Chg.alloc ?_ _ | refine Chg.setCell ?_ (by first | (simp; done) | (simp; omega) | (intro h; simp at h; omega)) _)))) hrl4 (by simp)).trans d4'); obtain ⟨va5, vc5, hv5, _, _, _⟩ := hown5.reads; subst hv5; have hc5 : Chg (fun k => (Value.slice qa T.queue.length qc).ownBlock = some k) w4 w5 := Chg.grown (w1 := _) (by ((repeat (first | exact Chg.refl _ _ | assumption | refine Chg.drewN ?_ _ | refine Chg.drew ?_ | refine Chg.alloc ?_ _ | refine Chg.setCell ?_ (by first | (simp; done) | (simp; omega) | (intro h; simp at h; omega)) _)))) hgrow (fun k e _ => e); have hat2 : ∀ k, (Value.slice va5 (T.queue.length + 1) vc5).ownBlock = some k → (Value.slice qa T.queue.length qc).ownBlock = some k ∨ w4.heap.size ≤ k := own_or hat (by simp); have HO5 := Lib.hid hown5; have HC5 := Lib.hid hc5; have HAT := Lib.hid hat2; clear hown5 hgrow hat hc5 hat2))
        all_goals
          obtain ⟨hst6, hsc6⟩ := HST5.out.stQueue (s := s) (by rw [HYQ.out]; exact HC5.out) HO5.out (RNm.chg HX4.out HC5.out (fun k hk e => by
            obtain ⟨cs, hbb⟩ := Own.typed HX4.out hk
            have := HQO.out _ (Chg.refl _ _)
            obtain ⟨cs2, hbb2⟩ := this.typed e
            exact hbb.ne_ hbb2 (by decide) rfl)) (by rw [HYQ.out]; exact HAT.out) (fun k hk => .inl (HXM.out k hk))
          obtain ⟨w6, hw6⟩ : ∃ w6, w6 = w5.setCell ⟨r, 4, none⟩ (.slice va5 (T.queue.length + 1) vc5) := ⟨_, rfl⟩
          have hs6 : w6.heap.size ≤ w5.heap.size ∧ w5.heap.size ≤ w6.heap.size := by rw [hw6]; simp [World.setCell]
          rw [← hw6] at hst6 hsc6
          rw [← hw6]
          have hD : ({ T with names := doStep T.names s, queue := T.queue ++ [s] } : DiskV) = namesA s T := by
            unfold namesA
            rw [if_neg HS.out]
          have hst7 := hst6.more (N := Mx M w w6) (fun k hk => by
            have := HCM4.out.size
            rcases hk with (e | e) | e
            · exact .inl e
            · exact .inr ⟨e.1, by have := hsc6.size; omega⟩
            · exact .inr ⟨by omega, by omega⟩) (mx_lt HLT.out (by have := HCM4.out.size; have := hsc6.size; omega))
          rw [hD] at hst7
          have hcm6 : Chg M w w6 := HCM4.out.trans hsc6 fun k hk e => by
            rcases e with e | e
            · exact e
            · omega
          have HST7 := Lib.hid hst7
          have HCM6 := Lib.hid hcm6
          clear hst6 hsc6 hw6 hs6 hD hst7 hcm6 HST5 HCM4 HX4 HO5 HC5 HAT HQO f5 c5
          go_wp2_with fail
          refine (HF.out _ _ _ HST7.out HYN.out.1 HYN.out.2).mono ?_
          rintro e w7 ⟨rfl, hp⟩
          have HP := Lib.hid hp
          clear hp
          go_wp2_with fail
          go_ret
          exact ⟨rfl, HP.out.more HLT.out HCM6.out⟩
  · have HT := Lib.hid htrap
    have hnl := doStep_len s T.names
    have hnm := hsmT.n
    have hql := hsmT.q
    have hfin := fun W y' M' hW (hcn : y'.cn = y.cn) (hcb : y'.cb = y.cb) => rd_finish r (namesA s T) y' M' 1 hokA (hsmA _ rfl) (fun _ => by rw [hcn, hcb]; exact hTcT rfl) (fun hne => by rw [hcn, hcb]; exact hceT hne) (by simp) W hW
    have HF := Lib.hid hfin
    clear htrap hfin
    rw [if_neg (by decide)]
    go_enter Tryz.func97, Tryz.ntmps97
    go_wp2_with fail
    rw [← HW1.out]
    refine HT.out.mono ?_
    rintro e w2 ⟨rfl, hi2, hc2⟩
    have hcM : Chg M w w2 := (HC1.out.mono (by simp)).trans hc2 fun k _ e => by rw [e]; exact hi2.mine r (.inl rfl)
    have hb2 := HB1.out.chg hc2 hne
    have hx2 := RNm.chg HX1.out hc2 (fun k hk (e : k = r) => by
      obtain ⟨cs, hbb⟩ := Own.typed HX1.out hk
      exact hbb.ne_ HBR.out (by decide) e)
    have z0 := hb2.cell 0
    simp at z0
    obtain ⟨_, _, d2, _, d4, _⟩ := rin_cells hi2
    have f2 := hi2.blk.frozen 2
    have hrl2 := hi2.blk.lt
    have hbl2 := hb2.lt
    obtain ⟨na, nc, hnv, _, hnn, _⟩ := rnm_form hi2.parts.names
    rw [hnv] at d2
    have hall := fun W (hW : Chg (fun _ => False) w2 W) => rd_all (ofNames T.names) (ofStep s) _ (.slice xa s.length xc) (by rw [ofNames_len, ofStep_len]; omega) W (hi2.parts.names.same hW) (RNm.same hx2 hW)
    rw [allR_eq, hnv] at hall
    obtain ⟨qa, qc, hqv, hqcap, hqn, _⟩ := hi2.parts.queue.own.reads
    have hqr : ¬ (Value.slice qa T.queue.length qc).ownBlock = some r := fun e => hi2.ne.2.2.2.1 r (by rw [hqv]; exact e) rfl
    have hqbx : ¬ (Value.slice qa T.queue.length qc).ownBlock = some w.heap.size := fun e => absurd (HLT.out _ (hi2.mine w.heap.size (.inr (.inr (.inr (.inr (.inl (by rw [hqv]; exact e)))))))) (Nat.lt_irrefl _)
    have HALL := Lib.hid hall
    have HI2 := Lib.hid hi2
    have HCM := Lib.hid hcM
    have HB2 := Lib.hid hb2
    have HX2 := Lib.hid hx2
    have HNV := Lib.hid hnv
    have HQV := Lib.hid hqv
    clear hi2 hc2 hcM hb2 hx2 hall hnv HT hqv d4
    go_wp2_with fail
    go_region_law (first | (go_simp; go_at_call 110; refine (HALL.out _ (by ((repeat (first | exact Chg.refl _ _ | assumption | refine Chg.drewN ?_ _ | refine Chg.drew ?_ | refine Chg.alloc ?_ _ | refine Chg.setCell ?_ (by first | (simp; done) | (simp; omega) | (intro h; simp at h; omega)) _))))).mono ?_; rintro e w3 ⟨v3, rfl, hn3, hk3, hc3⟩; obtain ⟨a3, p3, rfl, _, _, _⟩ := rnm_form hn3; have f2' := (hc3.frozen (p := ⟨r, 2, none⟩) hrl2 (by simp)).trans f2; have d2' := (hc3.cell (p := ⟨r, 2, none⟩) hrl2 (by simp)).trans d2; have HN3 := Lib.hid hn3; have hk4 : ∀ k, _ → _ ∨ w2.heap.size ≤ k := hk3; have HK3 := Lib.hid hk4; have hc4 : Chg (fun _ => False) w2 w3 := Chg.then (by ((repeat (first | exact Chg.refl _ _ | assumption | refine Chg.drewN ?_ _ | refine Chg.drew ?_ | refine Chg.alloc ?_ _ | refine Chg.setCell ?_ (by first | (simp; done) | (simp; omega) | (intro h; simp at h; omega)) _)))) hc3; have HC3 := Lib.hid hc4; clear hn3 hk3 hk4 hc3 hc4))
    all_goals
      obtain ⟨nl, hnl3⟩ : ∃ nl, nl = (ofNames (doStep T.names s)).length := ⟨_, rfl⟩
      obtain ⟨hst4, hsc4⟩ := HI2.out.stNames HC3.out HN3.out (fun k hk => by
        rcases HK3.out k hk with e | e
        · exact .inl (HI2.out.mine k (.inr (.inr (.inl (by rw [HNV.out]; exact e)))))
        · exact .inr e)
      rw [← hnl3] at hst4 hsc4
      rw [← hnl3]
      obtain ⟨w4, hw4⟩ : ∃ w4, w4 = w3.setCell ⟨r, 2, none⟩ (.slice a3 nl p3) := ⟨_, rfl⟩
      have hs4 : w3.heap.size ≤ w4.heap.size := by rw [hw4]; simp [World.setCell]
      rw [← hw4] at hst4 hsc4
      rw [← hw4]
      obtain ⟨y4, hy4⟩ : ∃ y4, y4 = ({ y with nv := .slice a3 nl p3 } : RLay) := ⟨_, rfl⟩
      have hyq : y4.qv = .slice qa T.queue.length qc := by rw [hy4]; exact HQV.out
      have hyn : y4.cn = y.cn ∧ y4.cb = y.cb := by rw [hy4]; exact ⟨rfl, rfl⟩
      rw [← hy4] at hst4
      have hst5 := hst4.more (N := Mx M w w4) (fun k hk => by
        have := HCM.out.size
        rcases hk with e | e
        · exact .inl e
        · exact .inr ⟨by omega, by omega⟩) (mx_lt HLT.out (by have := HCM.out.size; have := hsc4.size; omega))
      have hcm4 : Chg M w w4 := HCM.out.trans hsc4 fun k _ e => by rw [e]; exact HI2.out.mine r (.inl rfl)
      have hb4 := HB2.out.chg hsc4 hne
      have hx4 := RNm.chg HX2.out hsc4 (fun k hk (e : k = r) => by
        obtain ⟨cs, hbb⟩ := Own.typed HX2.out hk
        exact hbb.ne_ HI2.out.blk (by decide) e)
      have z4 := hb4.cell 0
      simp at z4
      have hbl4 := hb4.lt
      by_cases hs : s = []
      · have hlen0 : ¬ ((0 : Int) < (s.length : Int)) := by rw [hs]; simp
        have hD : ({ T with names := doStep T.names s } : DiskV) = namesA s T := by
          unfold namesA
          rw [if_pos hs]
        rw [hD] at hst5
        have HST5 := Lib.hid hst5
        have HCM4 := Lib.hid hcm4
        have HYN := Lib.hid hyn
        clear hst4 hsc4 hst5 hcm4 hb4 hx4 hw4 hD hs HN3 HK3 HC3 f2' d2' z0 HB2 HX2 HALL hyq hyn hy4 hnl3
        go_wp2_with fail
        refine (HF.out _ _ _ HST5.out HYN.out.1 HYN.out.2).mono ?_
        rintro e w5 ⟨rfl, hp⟩
        have HP := Lib.hid hp
        clear hp
        go_wp2_with fail
        go_ret
        exact ⟨rfl, HP.out.more HLT.out HCM4.out⟩
      · have hlen0 : (0 : Int) < (s.length : Int) := by
          have : s.length ≠ 0 := fun e => hs (List.eq_nil_of_length_eq_zero e)
          omega
        obtain ⟨i0, hi0, hz0, hz1, hz2⟩ := info_parts info_rdone
        obtain ⟨_, _, _, _, d4', _⟩ := rin_cells hst5
        have f4 := hst5.blk.frozen 4
        have hrl4 := hst5.blk.lt
        have hqO : ∀ W, Chg (fun _ => False) w4 W → Own W 140 1 (.slice qa T.queue.length qc) T.queue.length y4.qs := fun W hW => by
          have := hst5.parts.queue.own.same hW
          rw [hyq] at this
          exact this
        rw [hyq] at d4'
        have HYQ := Lib.hid hyq
        have HYN := Lib.hid hyn
        have HQO := Lib.hid hqO
        have HST5 := Lib.hid hst5
        have HCM4 := Lib.hid hcm4
        have HX4 := Lib.hid hx4
        have HS := Lib.hid hs
        clear hst4 hsc4 hst5 hcm4 hb4 hx4 hw4 hs hyq hyn hy4 hqO HN3 HK3 HC3 f2' d2' z0 HB2 HX2 HALL hnl3
        go_wp2_with fail
        go_region_law ((refine step_own_append _ (by rfl) _ _ _ _ (by rfl) 140 i0 (.agg #[.slice none 0 0]) 1 24 Tryz.underlying70 hi0 hz0 hz1 hz2 rfl (.slice qa T.queue.length qc) T.queue.length y4.qs (by rfl) (HQO.out _ (by ((repeat (first | exact Chg.refl _ _ | assumption | refine Chg.drewN ?_ _ | refine Chg.drew ?_ | refine Chg.alloc ?_ _ | refine Chg.setCell ?_ (by first | (simp; done) | (simp; omega) | (intro h; simp at h; omega)) _))))) _ 1 [.slice xa s.length xc] (by rfl) (Src.ofSlice _ Tryz.underlying70 ⟨w4.heap.size, 0, none⟩ 1 1 _ rfl (World.news_of_block (cs := #[.slice xa s.length xc]) (t := 140) (fr := (0, 0)) (by first | exact heap_alloc_new _ _ | exact Blk.drew (Blk.new _ _ _))) (by simp [Value.oneCell'])) (by unfold maxLen; omega) (by omega) ?_; intro v' w5 hown5 hgrow hat; have f5 : w5.frozen? ⟨r, 4, none⟩ = false := (hgrow.frozen_far ⟨r, 4, none⟩ (by simp; omega) (fun e => hqr e.symm)).trans ((Chg.frozen (S := fun _ => False) (w := w4) (by ((repeat (first | exact Chg.refl _ _ | assumption | refine Chg.drewN ?_ _ | refine Chg.drew ?_ | refine Chg.alloc ?_ _ | refine Chg.setCell ?_ (by first | (simp; done) | (simp; omega) | (intro h; simp at h; omega)) _)))) hrl4 (by simp)).trans f4); have c5 : w5.cell? ⟨r, 4, none⟩ = some (.slice qa T.queue.length qc) := (hgrow.cell_far ⟨r, 4, none⟩ (by simp; omega) (fun e => hqr e.symm)).trans ((Chg.cell (S := fun _ => False) (w := w4) (by ((repeat (first | exact Chg.refl _ _ | assumption | refine Chg.drewN ?_ _ | refine Chg.drew ?_ | refine Chg.alloc ?_ _ | refine Chg.setCell ?_ (by first | (simp; done) | (simp; omega) | (intro h; simp at h; omega)) _)))) hrl4 (by simp)).trans d4'); obtain ⟨va5, vc5, hv5, _, _, _⟩ := hown5.reads; subst hv5; have hc5 : Chg (fun k => (Value.slice qa T.queue.length qc).ownBlock = some k) w4 w5 := Chg.grown (w1 := _) (by ((repeat (first | exact Chg.refl _ _ | assumption | refine Chg.drewN ?_ _ | refine Chg.drew ?_ | refine Chg.alloc ?_ _ | refine Chg.setCell ?_ (by first | (simp; done) | (simp; omega) | (intro h; simp at h; omega)) _)))) hgrow (fun k e _ => e); have hat2 : ∀ k, (Value.slice va5 (T.queue.length + 1) vc5).ownBlock = some k → (Value.slice qa T.queue.length qc).ownBlock = some k ∨ w4.heap.size ≤ k := own_or hat (by simp); have HO5 := Lib.hid hown5; have HC5 := Lib.hid hc5; have HAT := Lib.hid hat2; clear hown5 hgrow hat hc5 hat2))
        all_goals
          obtain ⟨hst6, hsc6⟩ := HST5.out.stQueue (s := s) (by rw [HYQ.out]; exact HC5.out) HO5.out (RNm.chg HX4.out HC5.out (fun k hk e => by
            obtain ⟨cs, hbb⟩ := Own.typed HX4.out hk
            have := HQO.out _ (Chg.refl _ _)
            obtain ⟨cs2, hbb2⟩ := this.typed e
            exact hbb.ne_ hbb2 (by decide) rfl)) (by rw [HYQ.out]; exact HAT.out) (fun k hk => .inl (HXM.out k hk))
          obtain ⟨w6, hw6⟩ : ∃ w6, w6 = w5.setCell ⟨r, 4, none⟩ (.slice va5 (T.queue.length + 1) vc5) := ⟨_, rfl⟩
          have hs6 : w6.heap.size ≤ w5.heap.size ∧ w5.heap.size ≤ w6.heap.size := by rw [hw6]; simp [World.setCell]
          rw [← hw6] at hst6 hsc6
          rw [← hw6]
          have hD : ({ T with names := doStep T.names s, queue := T.queue ++ [s] } : DiskV) = namesA s T := by
            unfold namesA
            rw [if_neg HS.out]
          have hst7 := hst6.more (N := Mx M w w6) (fun k hk => by
            have := HCM4.out.size
            rcases hk with (e | e) | e
            · exact .inl e
            · exact .inr ⟨e.1, by have := hsc6.size; omega⟩
            · exact .inr ⟨by omega, by omega⟩) (mx_lt HLT.out (by have := HCM4.out.size; have := hsc6.size; omega))
          rw [hD] at hst7
          have hcm6 : Chg M w w6 := HCM4.out.trans hsc6 fun k hk e => by
            rcases e with e | e
            · exact e
            · omega
          have HST7 := Lib.hid hst7
          have HCM6 := Lib.hid hcm6
          clear hst6 hsc6 hw6 hs6 hD hst7 hcm6 HST5 HCM4 HX4 HO5 HC5 HAT HQO f5 c5
          go_wp2_with fail
          refine (HF.out _ _ _ HST7.out HYN.out.1 HYN.out.2).mono ?_
          rintro e w7 ⟨rfl, hp⟩
          have HP := Lib.hid hp
          clear hp
          go_wp2_with fail
          go_ret
          exact ⟨rfl, HP.out.more HLT.out HCM6.out⟩
  · have HT := Lib.hid htrap
    have hfin := fun W hW => rd_finish r T y M 2 hokT hsmT.small (by simp) hceT (by simp) W hW
    have HF := Lib.hid hfin
    clear htrap hfin
    rw [if_pos rfl]
    go_enter Tryz.func97, Tryz.ntmps97
    go_wp2_with fail
    rw [← HW1.out]
    refine HT.out.mono ?_
    rintro e w2 ⟨rfl, hi2, hc2⟩
    have HI2 := Lib.hid hi2
    have HC2 := Lib.hid hc2
    clear hi2 hc2
    go_wp2_with fail
    refine (HF.out _ HI2.out).mono ?_
    rintro e w3 ⟨rfl, hp⟩
    have HP := Lib.hid hp
    clear hp
    go_wp2_with fail
    go_ret
    exact ⟨rfl, HP.out.first HLT.out ((HC1.out.mono (by simp)).trans HC2.out fun k _ e => by rw [e]; exact HI2.out.mine r (.inl rfl))⟩
end Go.Proofs.YtjfbcjmnjlehaaaGreatDoor
