/-
  The document's disk: finish, names.
-/
import Derived.Test.YtjfbcjmnjlehaaaGreatDoorZRdE
namespace Go.Proofs.YtjfbcjmnjlehaaaGreatDoor
open Go.RowKit
set_option linter.unusedVariables false
set_option linter.unusedSimpArgs false

def finishD (D : DiskV) (t : Int) : Int × DiskV := if t = 1 then (13, { failD D D.cutN D.cutB with off := true }) else if t = 2 then (12, D) else (0, D)
theorem trapN_ways (D : DiskV) : trapN D = 0 ∨ trapN D = 1 ∨ trapN D = 2 := by
  unfold trapN
  split
  · simp
  · split <;> simp
theorem change_true (D : DiskV) (act : DiskV → DiskV) : changeD D true act = finishD (if trapN D = 2 then trapped D else act (trapped D)) (trapN D) := by
  unfold changeD finishD trapN
  by_cases h1 : (spring D.cutL).1 = true
  · simp [h1]
  · by_cases h2 : (spring D.fullL).1 = true
    · simp [h1, h2]
    · simp [h1, h2]
theorem change_false (D : DiskV) (act : DiskV → DiskV) : changeD D false act = finishD (if trapN D = 0 then act (trapped D) else trapped D) (trapN D) := by
  unfold changeD finishD trapN
  by_cases h1 : (spring D.cutL).1 = true
  · simp [h1]
  · by_cases h2 : (spring D.fullL).1 = true
    · simp [h1, h2]
    · simp [h1, h2]
theorem rints_of {w W : World} {r : Nat} {D : DiskV} {y : RLay} {M : Nat → Prop} (h : RIn w r D y M) (hc : Chg (fun k => k = r ∨ y.fv.ownBlock = some k) w W) : RInts W y.cv y.cb := by
  have ho := h.parts.cutb.chg hc fun k hk e => by
    rcases e with e | e
    · exact h.ne.2.2.2.2.2 k hk e
    · obtain ⟨cs, hb⟩ := h.parts.cutb.typed hk
      obtain ⟨cs2, hb2⟩ := h.parts.files.typed e
      exact hb.ne_ hb2 (by decide) rfl
  obtain ⟨a, cap, e, _, hn, hr⟩ := ho.reads
  refine ⟨a, cap, e, hn, h.cnb.2, fun hpos => ?_⟩
  obtain ⟨b, hb, _, _, hcell⟩ := hr hpos
  exact ⟨b, 0, hb, fun i x hx => by
    have := hcell i (.int .i64 x) (by unfold intCells; rw [List.getElem?_map, hx]; rfl)
    simpa using this⟩
/-- What a call leaves, with the layout. -/
def RPo (w : World) (r : Nat) (M : Nat → Prop) (D' : DiskV) (w' : World) : Prop := (∃ y', RIn w' r D' y' (Mx M w w') ∧ CutEq D' y') ∧ Chg M w w'
theorem RPo.post {w w' : World} {r : Nat} {M : Nat → Prop} {D' : DiskV} (h : RPo w r M D' w') (hok : DiskOk D') : RPost w r M D' w' := ⟨⟨hok, h.1⟩, h.2⟩
theorem RPo.first {w w1 w2 : World} {r : Nat} {M : Nat → Prop} {D' : DiskV} (h : RPo w1 r M D' w2) (hM : ∀ k, M k → k < w.heap.size) (hc : Chg M w w1) : RPo w r M D' w2 := by
  obtain ⟨⟨y, hi, hq⟩, hc2⟩ := h
  have h0 := hc.size
  have h1 := hc2.size
  refine ⟨⟨y, hi.more ?_ (mx_lt hM (by omega)), hq⟩, hc.then hc2⟩
  rintro k (e | e)
  · exact .inl e
  · exact .inr ⟨by omega, e.2⟩
/-- The same, when blocks had been made ahead. -/
theorem RPo.more {w w1 w2 : World} {r : Nat} {M : Nat → Prop} {D' : DiskV} (h : RPo w1 r (Mx M w w1) D' w2) (hM : ∀ k, M k → k < w.heap.size) (hc : Chg M w w1) : RPo w r M D' w2 := by
  obtain ⟨⟨y, hi, hq⟩, hc2⟩ := h
  have h0 := hc.size
  have h1 := hc2.size
  refine ⟨⟨y, hi.more (mx_mx h0 h1) (mx_lt hM (by omega)), hq⟩, hc.trans hc2 fun k hk e => ?_⟩
  rcases e with e | e
  · exact e
  · omega
theorem RPo.same {w w' : World} {r : Nat} {D : DiskV} {y : RLay} {M : Nat → Prop} (h : RIn w' r D y M) (hq : CutEq D y) (hM : ∀ k, M k → k < w.heap.size) (hc : Chg M w w') : RPo w r M D w' :=
  ⟨⟨y, h.more (fun k hk => .inl hk) (mx_lt hM hc.size), hq⟩, hc⟩

set_option maxRecDepth 100000 in
set_option maxHeartbeats 4000000 in
theorem rd_finish (r : Nat) (D : DiskV) (y : RLay) (M : Nat → Prop) (t : Int) (hok : DiskOk D) (hsm : RSmall D) (hcut : t = 1 → y.cn = D.cutN ∧ y.cb = D.cutB) (hce : CutEq D y) (ht : t = 0 ∨ t = 1 ∨ t = 2) (w : World) (h : RIn w r D y M) :
    Calls Tryz.prog 99 #[.pointer (some ⟨r, 0, none⟩), .int .i64 t] w fun e w' => e = .returned (.int .i64 (finishD D t).1) ∧ RPo w r M (finishD D t).2 w' := by
  have hrl := h.blk.lt
  rcases ht with rfl | rfl | rfl
  · have hp : RPo w r M D w := RPo.same h hce h.lt (Chg.refl _ _)
    have HP := Lib.hid hp
    clear h hp
    go_enter Tryz.func99, Tryz.ntmps99
    go_wp2_with fail
    go_ret
    exact ⟨rfl, HP.out⟩
  · obtain ⟨_, _, _, _, _, _, _, c7, c8, _⟩ := rin_cells h
    obtain ⟨e1, e2⟩ := hcut rfl
    have hfail := fun W (hW : Chg (fun _ => False) w W) => rd_fail r D y M y.cn y.cb y.cv hok hsm h.cnb.1.1 h.cnb.1.2 W (h.same hW) (fun W' hW' => rints_of (h.same hW) hW')
    rw [e1] at c7
    rw [e1, e2] at hfail
    have HF := Lib.hid hfail
    have hM := h.lt
    have hMr : M r := h.mine r (.inl rfl)
    have HM := Lib.hid hM
    have HMr := Lib.hid hMr
    clear hfail e1 e2 h hM hMr
    generalize y.cv = cv at *
    go_enter Tryz.func99, Tryz.ntmps99
    go_wp2_with fail
    go_region_law (first | (go_simp; go_at_call 58; refine (HF.out _ (by ((repeat (first | exact Chg.refl _ _ | assumption | refine Chg.drewN ?_ _ | refine Chg.drew ?_ | refine Chg.alloc ?_ _ | refine Chg.setCell ?_ (by first | (simp; done) | (simp; omega) | (intro h; simp at h; omega)) _))))).mono ?_; rintro e w2 ⟨rfl, ⟨y2, hi2⟩, hc2⟩; have hc2' : Chg M w w2 := Chg.then (by ((repeat (first | exact Chg.refl _ _ | assumption | refine Chg.drewN ?_ _ | refine Chg.drew ?_ | refine Chg.alloc ?_ _ | refine Chg.setCell ?_ (by first | (simp; done) | (simp; omega) | (intro h; simp at h; omega)) _)))) hc2; have hs2 := hc2'.size; have hi2' : RIn w2 r _ y2 (Mx M w w2) := hi2; have hb2 := hi2'.blk; have HI2 := Lib.hid hi2'; have HC2 := Lib.hid hc2'; clear hi2 hi2' hc2 hc2'))
    all_goals
      have f5 := hb2.frozen 5
      have c5 := hb2.cell 5
      simp [rCells] at c5
      have HB2 := Lib.hid hb2
      clear hb2
      go_wp2_with fail
      go_ret
      refine ⟨rfl, ⟨y2, ?_, by intro hne; exact absurd rfl hne⟩, ?_⟩
      · have hset : Chg (fun k => k = r) w2 (w2.setCell ⟨r, 5, none⟩ (.bool true)) := Chg.setOwn (Chg.refl _ _) _ _
        have hs3 := hset.size
        have hb := HB2.out.set_ 5 (.bool true)
        have := HI2.out.setR (D' := { failD D D.cutN D.cutB with off := true }) hset (by simpa [rCells] using hb) rfl rfl rfl rfl
        refine this.more (fun k hk => ?_) (mx_lt HM.out (by omega))
        rcases hk with e | e
        · exact .inl e
        · exact .inr ⟨e.1, by omega⟩
      · exact HC2.out.setCell (fun _ => HMr.out) _
  · have hp : RPo w r M D w := RPo.same h hce h.lt (Chg.refl _ _)
    have HP := Lib.hid hp
    clear h hp
    go_enter Tryz.func99, Tryz.ntmps99
    go_wp2_with fail
    go_ret
    exact ⟨rfl, HP.out⟩
/-- Names are others. -/
theorem RIn.stNames {w w2 : World} {r : Nat} {D : DiskV} {y : RLay} {M : Nat → Prop} {v' : Value} {L : Names} (h : RIn w r D y M) (hc : Chg (fun _ => False) w w2) (hn : RNm w2 v' (ofNames L)) (hv : ∀ k, v'.ownBlock = some k → M k ∨ w.heap.size ≤ k) :
    RIn (w2.setCell ⟨r, 2, none⟩ v') r { D with names := L } { y with nv := v' } (Mx M w w2) ∧ Chg (fun k => k = r) w (w2.setCell ⟨r, 2, none⟩ v') := by
  have hset : Chg (fun k => k = r) w2 (w2.setCell ⟨r, 2, none⟩ v') := Chg.setOwn (Chg.refl _ _) _ _
  have hall : Chg (fun k => k = r) w (w2.setCell ⟨r, 2, none⟩ v') := (hc.mono (by simp)).then hset
  have hp := h.own hall
  have hs0 := hc.size
  have hr := h.blk.chg hc (by simp)
  refine ⟨⟨?_, ⟨hp.files, RNm.chg hn hset (fun k hk => ?_), hp.lasts, hp.queue, hp.cutb⟩, h.cnb, ?_, ?_⟩, hall⟩
  · have := hr.set_ 2 v'
    simpa [rCells] using this
  · obtain ⟨cs, hb⟩ := Own.typed hn hk
    exact hb.ne_ hr (by decide)
  · have hm := h.mine
    rintro k (e | e | e | e | e | e | e)
    · exact .inl (hm k (.inl e))
    · exact .inl (hm k (.inr (.inl e)))
    · rcases hv k e with e' | e'
      · exact .inl e'
      · exact .inr ⟨e', Own.lt hn e⟩
    · exact .inl (hm k (.inr (.inr (.inr (.inl e)))))
    · exact .inl (hm k (.inr (.inr (.inr (.inr (.inl e))))))
    · exact .inl (hm k (.inr (.inr (.inr (.inr (.inr (.inl e)))))))
    · exact .inl (hm k (.inr (.inr (.inr (.inr (.inr (.inr e)))))))
  · have := mx_lt h.lt hs0
    intro k hk
    have := this k hk
    simpa [World.setCell] using this
end Go.Proofs.YtjfbcjmnjlehaaaGreatDoor
