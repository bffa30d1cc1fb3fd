/-
  The disk: a call that changes (change).
-/
import Derived.Test.YtljabmkmngbhkaaGreatDoorZDiskD
import Derived.Deep.RegionHeld3
import Derived.StillTailTactics
namespace Go.Proofs.YtljabmkmngbhkaaGreatDoor
open Go.RowKit
set_option linter.unusedVariables false
set_option linter.unusedSimpArgs false

theorem spring_any (d o : Nat) (l : Int) (t : TypeId) (cs : Array Value) (h0 : 0 ≤ l ∧ l ≤ 9223372036854775807) (w : World) (h : Blk w d t cs) (hc : cs[o]? = some (.int .i64 l)) :
    Calls Tryz.prog 261 #[.pointer (some ⟨d, o, none⟩)] w fun e w' => e = .returned (.bool (spring l).1) ∧ Blk w' d t (cs.setIfInBounds o (.int .i64 (spring l).2)) ∧ Chg (fun k => k = d) w w' := by
  have hcell := (h.cell o).trans hc
  by_cases hz : l = 0
  · subst hz
    refine (spring_zero d o w hcell).mono ?_
    rintro e w' ⟨rfl, rfl⟩
    refine ⟨rfl, ?_, Chg.refl _ _⟩
    have : cs.setIfInBounds o (.int .i64 (spring 0).2) = cs := by
      obtain ⟨hlt, he⟩ := Array.getElem?_eq_some_iff.1 hc
      apply Array.ext
      · simp
      · intro i h1 h2
        rw [Array.getElem_setIfInBounds (by simpa using h1)]
        split
        · rename_i e; subst e; rw [he]; rfl
        · rfl
    rw [this]
    exact h
  · refine (spring_some d o l (by omega) h0.2 w hcell (h.frozen o)).mono ?_
    rintro e w' ⟨rfl, rfl⟩
    have : spring l = (l - 1 == 0, l - 1) := by unfold spring; rw [if_neg hz]
    rw [this]
    exact ⟨rfl, h.set_ o _, Chg.setOwn (Chg.refl _ _) _ _⟩
theorem cutb_rints {w W : World} {d : Nat} {ids : List Nat} {D : DiskV} {y : Lay} {M : Nat → Prop} (h : DiskIn w d ids D y M) (hok : DiskOk D) (hc : Chg (fun k => k = d ∨ k = y.lm ∨ FFoot ids y.fv y.dvs k) w W) : RInts W y.cv D.cutB := by
  have ho := h.cutb.chg hc fun k hk e => by
    obtain ⟨a1, _, b1⟩ := h.cut_ne hk
    rcases e with e | e | e
    · exact a1 e
    · exact b1 e
    · exact (h.files_ne e).2.2.2.2 hk
  obtain ⟨a, cap, e, _, hn, hr⟩ := ho.reads
  refine ⟨a, cap, e, hn, hok.cutB, fun hpos => ?_⟩
  obtain ⟨b, hb, _, _, hcell⟩ := hr hpos
  exact ⟨b, 0, hb, fun i x hx => by
    have := hcell i (.int .i64 x) (by unfold intCells; rw [List.getElem?_map, hx]; rfl)
    simpa using this⟩
/-- Both traps have been looked at. -/
theorem DiskIn.trapped {w w' : World} {d : Nat} {ids : List Nat} {D : DiskV} {y : Lay} {M : Nat → Prop} (h : DiskIn w d ids D y M) (hc : Chg (fun k => k = d) w w')
    (hb : Blk w' d 93 #[.int .i64 D.room, y.fv, .map (some y.nm), .map (some y.lm), y.qv, .int .i64 (spring D.cutL).2, .int .i64 D.cutN, y.cv, .int .i64 (spring D.fullL).2, .int .i64 0, .slice none 0 0, .bool D.off]) : DiskIn w' d ids (trapped D) y M :=
  h.setD hc (spring D.cutL).2 D.cutN D.cutB (spring D.fullL).2 D.off y.cv hb (h.cutb.chg hc fun k hk => (h.cut_ne hk).1) fun k hk => h.mine k (.inr (.inr (.inr (.inr (.inr hk)))))

theorem DPost.first {w w1 w2 : World} {d : Nat} {ids : List Nat} {M : Nat → Prop} {D' : DiskV} (h : DPost w1 d ids M D' w2) (hM : ∀ k, M k → k < w.heap.size) (hc : Chg M w w1) : DPost w d ids M D' w2 := by
  obtain ⟨ids', ha, hp, hc2⟩ := h
  have h0 := hc.size
  have h1 := hc2.size
  refine ⟨ids', ha.more ?_ (mx_lt hM (by omega)), hp, hc.then hc2⟩
  rintro k (e | e)
  · exact .inl e
  · exact .inr ⟨by omega, e.2⟩
def diskCells (D : DiskV) (y : Lay) (a b : Int) : Array Value := #[.int .i64 D.room, y.fv, .map (some y.nm), .map (some y.lm), y.qv, .int .i64 a, .int .i64 D.cutN, y.cv, .int .i64 b, .int .i64 0, .slice none 0 0, .bool D.off]
theorem spring5 (d : Nat) (D : DiskV) (y : Lay) (a b : Int) (h0 : 0 ≤ a ∧ a ≤ 9223372036854775807) (w : World) (h : Blk w d 93 (diskCells D y a b)) :
    Calls Tryz.prog 261 #[.pointer (some ⟨d, 5, none⟩)] w fun e w' => e = .returned (.bool (spring a).1) ∧ Blk w' d 93 (diskCells D y (spring a).2 b) ∧ Chg (fun k => k = d) w w' :=
  (spring_any d 5 a _ _ h0 w h rfl).mono fun e w' ⟨h1, h2, h3⟩ => ⟨h1, by simpa [diskCells] using h2, h3⟩
theorem spring8 (d : Nat) (D : DiskV) (y : Lay) (a b : Int) (h0 : 0 ≤ b ∧ b ≤ 9223372036854775807) (w : World) (h : Blk w d 93 (diskCells D y a b)) :
    Calls Tryz.prog 261 #[.pointer (some ⟨d, 8, none⟩)] w fun e w' => e = .returned (.bool (spring b).1) ∧ Blk w' d 93 (diskCells D y a (spring b).2) ∧ Chg (fun k => k = d) w w' :=
  (spring_any d 8 b _ _ h0 w h rfl).mono fun e w' ⟨h1, h2, h3⟩ => ⟨h1, by simpa [diskCells] using h2, h3⟩
section
variable (d : Nat) (ids : List Nat) (D : DiskV) (M : Nat → Prop) (atCut : Bool) (K : Nat) (caps : Array Value) (act : DiskV → DiskV) (w : World)

set_option maxRecDepth 100000 in
set_option maxHeartbeats 4000000 in
theorem disk_change (h : DiskAt w d ids D M) (hq : (act (trapped D)).queue.length ≤ 1000000000) (hq0 : D.queue.length ≤ 1000000000)
    (hcf : ∀ (W : World), (callFunc K caps).run Tryz.prog W = .ok (.enter K caps) W)
    (hact : ∀ W y', DiskIn W d ids (trapped D) y' M → Chg (fun k => k = d) w W → Calls Tryz.prog K caps W fun e W' => e = .returned (.tuple #[]) ∧ DPost W d ids M (act (trapped D)) W') :
    Calls Tryz.prog 172 #[.pointer (some ⟨d, 0, none⟩), .bool atCut, .func (.func K) #[] caps] w fun e w' => e = .returned (.int .i64 (changeD D atCut act).1) ∧ DPost w d ids M (changeD D atCut act).2 w' := by
  obtain ⟨hok, y, h⟩ := h
  have hcl := hok.cutL
  have hfl := hok.fullL
  have H := Lib.hid h
  have HOK := Lib.hid hok
  have HACT := Lib.hid hact
  have hb : Blk w d 93 (diskCells D y D.cutL D.fullL) := h.blk
  have HB := Lib.hid hb
  clear h hok hact hb
  go_enter Tryz.func172, Tryz.ntmps172
  go_wp2_with fail
  have e11 : w.cell? ⟨d, 11, none⟩ = some (.bool D.off) := HB.out.cell 11
  go_region_held3 (fun w' => w'.cell? ⟨d, 11, none⟩ = some (.bool D.off)) (first | (go_keep; done) | exact hb2.cell 11 | exact hb1.cell 11)
    (first
      | (go_at_call 261; (with_reducible refine (spring5 d D y D.cutL D.fullL hcl _ ?_).mono ?_); exact HB.out.chg (S := fun _ => False) cgS (by simp); rintro e w1 ⟨rfl, hb1, hc1⟩)
      | (go_at_call 261; (with_reducible refine (spring8 d D y (spring D.cutL).2 D.fullL hfl _ ?_).mono ?_); exact hb1.chg (S := fun _ => False) cgS (by simp); rintro e w2 ⟨rfl, hb2, hc2⟩))
  have hc12 : Chg (fun k => k = d) w w2 := Chg.then (Chg.then (Chg.drewN (Chg.refl _ _) _) hc1) hc2
  have h2 : DiskIn w2 d ids (trapped D) y M := H.out.trapped hc12 hb2
  have H2 := Lib.hid h2
  have HC12 := Lib.hid hc12
  have hok2 := trapped_ok HOK.out
  have HOK2 := Lib.hid hok2
  have hlt := H.out.lt
  have HLT := Lib.hid hlt
  clear hb1 hc1 hb2 hc2 hc12 h2 hok2 hlt e11
  cases hcut : (spring D.cutL).1 with
  | false =>
    cases hful : (spring D.fullL).1 with
    | false =>
      have hcd : changeD D atCut act = (0, act (trapped D)) := by unfold changeD; rw [hcut, hful]; rfl
      have HCD := Lib.hid hcd
      clear hcd hcut hful
      have hcf2 := hcf w2
      go_wp2_with fail
      refine (HACT.out w2 y H2.out HC12.out).mono ?_
      rintro e w3 ⟨rfl, hpost⟩
      have HP := Lib.hid hpost
      clear hpost
      go_wp2_with fail
      go_ret
      rw [HCD.out]
      exact ⟨rfl, HP.out.first HLT.out (HC12.out.mono fun k _ e => by rw [e]; exact H.out.mine _ (.inl rfl))⟩
    | true =>
      have hcd : changeD D atCut act = (12, trapped D) := by unfold changeD; rw [hcut, hful]; rfl
      have HCD := Lib.hid hcd
      clear hcd hcut hful
      go_wp2_with fail
      go_ret
      rw [HCD.out]
      exact ⟨rfl, DPost.same ⟨HOK2.out, y, H2.out⟩ HLT.out (HC12.out.mono fun k _ e => by rw [e]; exact H.out.mine _ (.inl rfl))⟩
  | true =>
    have hcM2 : Chg M w w2 := HC12.out.mono fun k _ e => by rw [e]; exact H.out.mine _ (.inl rfl)
    have HCM2 := Lib.hid hcM2
    clear hcM2
    cases atCut with
    | false =>
      obtain ⟨w3, hw3⟩ : ∃ w3, w3 = w2 := ⟨_, rfl⟩
      obtain ⟨ids3, hids3⟩ : ∃ ids3, ids3 = ids := ⟨_, rfl⟩
      obtain ⟨D3, hD3⟩ : ∃ D3, D3 = trapped D := ⟨_, rfl⟩
      obtain ⟨y3, hy3⟩ : ∃ y3, y3 = y := ⟨_, rfl⟩
      obtain ⟨M3, hM3⟩ : ∃ M3, M3 = M := ⟨_, rfl⟩
      have hcd : changeD D false act = (13, { failD D3 D3.cutN D3.cutB with off := true }) := by unfold changeD; rw [hcut, hD3]; rfl
      have h3 : DiskIn w3 d ids3 D3 y3 M3 := by rw [hw3, hids3, hD3, hy3, hM3]; exact H2.out
      have hok3 : DiskOk D3 := by rw [hD3]; exact HOK2.out
      have hpre : ids <+: ids3 := by rw [hids3]; exact List.prefix_refl _
      have hc3 : Chg M w w3 := by rw [hw3]; exact HCM2.out
      have hm3 : ∀ k, M3 k → M k ∨ w.heap.size ≤ k := fun k hk => .inl (by rw [← hM3]; exact hk)
      have HCD := Lib.hid hcd
      have H3 := Lib.hid h3
      have HOK3 := Lib.hid hok3
      have HPRE := Lib.hid hpre
      have HC3 := Lib.hid hc3
      have HM3 := Lib.hid hm3
      have hq3 : D3.queue.length ≤ 1000000000 := by rw [hD3]; exact hq0
      rw [← hw3]
      clear hcd h3 hcut hok3 hpre hc3 hm3 hw3 hids3 hD3 hy3 hM3
      have k6 := H3.out.blk.cell 6
      have k7 := H3.out.blk.cell 7
      simp at k6 k7
      go_wp2_with fail
      go_still_tail 11, (by kernel_rfl)
      change wpList _ _ _ _ _ w3.drew
      generalize hw4 : w3.drew = w4
      have hc4 : Chg (fun _ => False) w3 w4 := by rw [← hw4]; exact (Chg.refl _ _).drew
      have H4 := Lib.hid (H3.out.same hc4)
      have HC4 := Lib.hid hc4
      clear k6 k7 hc4 hw4
      go_wp2_with fail
      refine (disk_fail d ids3 D3 y3 M3 D3.cutN D3.cutB _ HOK3.out hq3 HOK3.out.cutN.1 HOK3.out.cutN.2 w4 H4.out (fun W hW => cutb_rints H4.out HOK3.out hW)).mono ?_
      rintro e w5 ⟨rfl, ⟨y5, h5⟩, hc5⟩
      have j11 := h5.blk.frozen 11
      have k11 := h5.blk.cell 11
      simp at k11
      have H5 := Lib.hid h5
      have HC5 := Lib.hid hc5
      clear h5 hc5
      go_wp2_with fail
      go_ret
      rw [HCD.out]
      refine ⟨rfl, ids3, ⟨off_ok (fail_ok HOK3.out _ _) true, ?_⟩, HPRE.out, ?_⟩
      · have hset : Chg (fun k => k = d) w5 (w5.setCell ⟨d, 11, none⟩ (.bool true)) := Chg.setOwn (Chg.refl _ _) _ _
        have hb6 := H5.out.blk.set_ 11 (.bool true)
        have h6 := H5.out.setD hset (failD D3 D3.cutN D3.cutB).cutL (failD D3 D3.cutN D3.cutB).cutN (failD D3 D3.cutN D3.cutB).cutB (failD D3 D3.cutN D3.cutB).fullL true y5.cv (by simpa using hb6) (H5.out.cutb.chg hset fun k hk => (H5.out.cut_ne hk).1) (fun k hk => H5.out.mine k (.inr (.inr (.inr (.inr (.inr hk))))))
        have s1 := HC3.out.size
        have s4 := HC4.out.size
        have s5 := HC5.out.size
        have s6 := hset.size
        refine ⟨_, h6.more (fun k hk => ?_) (mx_lt HLT.out (by omega))⟩
        rcases hk with e | e
        · have hl := H3.out.lt k e
          rcases HM3.out k e with e' | e'
          · exact .inl e'
          · exact .inr ⟨e', by omega⟩
        · exact .inr ⟨by omega, by omega⟩
      · refine ((HC3.out.then (HC4.out.mono (by simp))).trans HC5.out (fun k hk e => ?_)).setCell (fun _ => H.out.mine _ (.inl rfl)) _
        rcases HM3.out k e with e' | e'
        · exact e'
        · omega
    | true =>
      have hcf2 := hcf w2
      have hcd : changeD D true act = (13, { failD (act (trapped D)) (act (trapped D)).cutN (act (trapped D)).cutB with off := true }) := by unfold changeD; rw [hcut]; rfl
      have HCD := Lib.hid hcd
      clear hcd hcut
      go_wp2_with fail
      refine (HACT.out w2 y H2.out HC12.out).mono ?_
      rintro e w3 ⟨rfl, ids3, ⟨hok3, y3, h3⟩, hpre, hc3⟩
      have hq3 := hq
      generalize act (trapped D) = D3 at *
      obtain ⟨M3, hM3⟩ : ∃ M3, M3 = Mx M w2 w3 := ⟨_, rfl⟩
      rw [← hM3] at h3
      have hm3 : ∀ k, M3 k → M k ∨ w.heap.size ≤ k := fun k hk => by
        rw [hM3] at hk
        rcases hk with e | e
        · exact .inl e
        · have := HCM2.out.size; exact .inr (by omega)
      have hc03 : Chg M w w3 := HCM2.out.then hc3
      have H3 := Lib.hid h3
      have HOK3 := Lib.hid hok3
      have HPRE := Lib.hid hpre
      have HC3 := Lib.hid hc03
      have HM3 := Lib.hid hm3
      clear h3 hok3 hpre hc3 hc03 hm3 hM3 hcf2
      have k6 := H3.out.blk.cell 6
      have k7 := H3.out.blk.cell 7
      simp at k6 k7
      go_wp2_with fail
      go_still_tail 11, (by kernel_rfl)
      change wpList _ _ _ _ _ w3.drew
      generalize hw4 : w3.drew = w4
      have hc4 : Chg (fun _ => False) w3 w4 := by rw [← hw4]; exact (Chg.refl _ _).drew
      have H4 := Lib.hid (H3.out.same hc4)
      have HC4 := Lib.hid hc4
      clear k6 k7 hc4 hw4
      go_wp2_with fail
      refine (disk_fail d ids3 D3 y3 M3 D3.cutN D3.cutB _ HOK3.out hq3 HOK3.out.cutN.1 HOK3.out.cutN.2 w4 H4.out (fun W hW => cutb_rints H4.out HOK3.out hW)).mono ?_
      rintro e w5 ⟨rfl, ⟨y5, h5⟩, hc5⟩
      have j11 := h5.blk.frozen 11
      have k11 := h5.blk.cell 11
      simp at k11
      have H5 := Lib.hid h5
      have HC5 := Lib.hid hc5
      clear h5 hc5
      go_wp2_with fail
      go_ret
      rw [HCD.out]
      refine ⟨rfl, ids3, ⟨off_ok (fail_ok HOK3.out _ _) true, ?_⟩, HPRE.out, ?_⟩
      · have hset : Chg (fun k => k = d) w5 (w5.setCell ⟨d, 11, none⟩ (.bool true)) := Chg.setOwn (Chg.refl _ _) _ _
        have hb6 := H5.out.blk.set_ 11 (.bool true)
        have h6 := H5.out.setD hset (failD D3 D3.cutN D3.cutB).cutL (failD D3 D3.cutN D3.cutB).cutN (failD D3 D3.cutN D3.cutB).cutB (failD D3 D3.cutN D3.cutB).fullL true y5.cv (by simpa using hb6) (H5.out.cutb.chg hset fun k hk => (H5.out.cut_ne hk).1) (fun k hk => H5.out.mine k (.inr (.inr (.inr (.inr (.inr hk))))))
        have s1 := HC3.out.size
        have s4 := HC4.out.size
        have s5 := HC5.out.size
        have s6 := hset.size
        refine ⟨_, h6.more (fun k hk => ?_) (mx_lt HLT.out (by omega))⟩
        rcases hk with e | e
        · have hl := H3.out.lt k e
          rcases HM3.out k e with e' | e'
          · exact .inl e'
          · exact .inr ⟨e', by omega⟩
        · exact .inr ⟨by omega, by omega⟩
      · refine ((HC3.out.then (HC4.out.mono (by simp))).trans HC5.out (fun k hk e => ?_)).setCell (fun _ => H.out.mine _ (.inl rfl)) _
        rcases HM3.out k e with e' | e'
        · exact e'
        · omega
end
end Go.Proofs.YtljabmkmngbhkaaGreatDoor
