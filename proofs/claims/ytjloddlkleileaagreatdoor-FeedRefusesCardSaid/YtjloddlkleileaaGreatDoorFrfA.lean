/-
  The law's look at a text; a disk of the call's own; all without the store.
-/
import Derived.Test.YtjloddlkleileaaGreatDoorPlnI
import Derived.Test.YtjloddlkleileaaGreatDoorPlnH
import Derived.Test.YtjloddlkleileaaGreatDoorPlnD
import Derived.Test.YtjloddlkleileaaGreatDoorFrfM
namespace Go.Proofs.YtjloddlkleileaaGreatDoor
open Go.RowKit
set_option linter.unusedVariables false
set_option linter.unusedSimpArgs false

theorem np_text (s : List UInt8) : textBad s ≠ 13 := by
  unfold textBad
  split
  · rename_i c h
    exact np_parse _ h
  · exact np_check _
/- the end: world · its block's hidden fact · its change's · the slice · the number · the answer -/
set_option maxRecDepth 100000 in
set_option maxHeartbeats 8000000 in
theorem lf_planned (s : ByteArray) (t : Bool) (ht : t = decide (textBad s.data.toList = 0)) (w : World) : Calls Tryz.prog 10 #[.string s] w fun e w' => (∃ a n c m, e = .returned (.tuple #[.agg #[.slice a n c, .int .i64 m], .bool t])) ∧ Chg (fun _ => False) w w' := by
  obtain ⟨w1, hw1⟩ : ∃ w1, w1 = w.alloc (.cells #[.slice none 0 0, .int .i64 0] 46) := ⟨_, rfl⟩
  have hc1 : Chg (fun _ => False) w w1 := by rw [hw1]; ((repeat (first | exact Chg.refl _ _ | assumption | refine Chg.drewN ?_ _ | refine Chg.drew ?_ | refine Chg.alloc ?_ _ | refine Chg.setCell ?_ (by first | (simp; done) | (simp; omega) | (intro h; simp at h; omega)) _)))
  have hz1 : Blk w1 w.heap.size 46 #[.slice none 0 0, .int .i64 0] := by rw [hw1]; exact Blk.new _ _ _
  have hrp := rp_parse s w1
  obtain ⟨V, hV⟩ : ∃ V, textBad s.data.toList = V := ⟨_, rfl⟩
  have hTB := hV.symm
  rw [hV] at ht
  clear hV
  unfold textBad at hTB
  obtain ⟨g, hg⟩ : ∃ g, w.heap.size = g := ⟨_, rfl⟩
  rw [hg] at hz1
  have HW1 := Lib.hid hw1
  have HC1 := Lib.hid hc1
  have HRP := Lib.hid hrp
  have HZ1 := Lib.hid hz1
  have HG := Lib.hid hg
  have HTB := Lib.hid hTB
  have HT := Lib.hid ht
  clear hw1 hc1 hrp hz1 hg hTB ht
  go_enter Tryz.func10, Tryz.ntmps10
  go_upto_region 1 with fail
  rw [← HW1.out, HG.out]
  go_wp2_with fail
  refine HRP.out.mono ?_
  rintro e w2 hpe
  cases hp : parseP s.data.toList with
  | inr c =>
    rw [hp] at hpe
    obtain ⟨hc0, i, rfl, h6⟩ := hpe
    have hTB := HTB.out
    rw [hp] at hTB
    have hTB : V = c := hTB
    subst hTB
    have hz2 := HZ1.out.chg h6 (by simp)
    have hc := HC1.out.then h6
    have hd : t = false := HT.out.trans (decide_eq_false hc0)
    subst hd
    have q : (V != 0) = true := by simp [hc0]
    obtain ⟨w3, hw3⟩ : ∃ w3, w3 = w2.alloc (.cells #[.slice none 0 0, .slice none 0 0, .int .i64 0] 75) := ⟨_, rfl⟩
    have hc3 : Chg (fun _ => False) w2 w3 := by rw [hw3]; ((repeat (first | exact Chg.refl _ _ | assumption | refine Chg.drewN ?_ _ | refine Chg.drew ?_ | refine Chg.alloc ?_ _ | refine Chg.setCell ?_ (by first | (simp; done) | (simp; omega) | (intro h; simp at h; omega)) _)))
    have hz3 := hz2.chg hc3 (by simp)
    have hcw3 := hc.then hc3
    have HW3 := Lib.hid hw3
    have HZ3 := Lib.hid hz3
    have HCW3 := Lib.hid hcw3
    clear hw3 hz3 hcw3
    clear hc0 h6 hp HTB HT hc hz2 hc3
    go_upto_region 2 with fail
    rw [← HW3.out]
    have z0 := HZ3.out.cell 0
    have z1 := HZ3.out.cell 1
    have zf0 := HZ3.out.frozen 0
    have zf1 := HZ3.out.frozen 1
    simp at z0 z1
    go_wp2_with fail
    obtain ⟨wz, hwz⟩ : ∃ wz : World, wz = (w3.setCell ⟨g, 0, none⟩ (.slice none 0 0)).setCell ⟨g, 1, none⟩ (.int .i64 0) := ⟨_, rfl⟩
    have hb9 : Blk wz g 46 #[.slice none 0 0, .int .i64 0] := by
      rw [hwz]
      have hz := (HZ3.out.set_ 0 (.slice none 0 0)).set_ 1 (.int .i64 0)
      simpa using hz
    have hcz : Chg (fun k => k = g) w3 wz := by rw [hwz]; exact Chg.seto (Chg.seto (Chg.refl _ _))
    have hcw := HCW3.out.trans hcz fun k hk e => by have : k = g := e; have := HG.out; omega
    rw [← hwz]
    have zx0 := hb9.cell 0
    have zx1 := hb9.cell 1
    simp at zx0 zx1
    exact bodyPost_ret (v := .tuple #[.agg #[.slice none 0 0, .int .i64 0], .bool false]) (by simp [results, Tryz.results10, go_sem, zx0, zx1]) rfl ⟨⟨_, _, _, _, rfl⟩, hcw⟩
  | inl p =>
    rw [hp] at hpe
    obtain ⟨sv, cv, rfl, hL, hC, h6⟩ := hpe
    have hT1 := HTB.out
    rw [hp] at hT1
    have hTB : V = (checkP p).2 := hT1
    clear hT1
    obtain ⟨hl1, hl2⟩ := parse_lists hp
    have hz2 := HZ1.out.chg h6 (by simp)
    have hc := HC1.out.then h6
    obtain ⟨w3, hw3⟩ : ∃ w3, w3 = w2.alloc (.cells #[sv, cv, .int .i64 p.within] 75) := ⟨_, rfl⟩
    have hc3 : Chg (fun _ => False) w2 w3 := by rw [hw3]; ((repeat (first | exact Chg.refl _ _ | assumption | refine Chg.drewN ?_ _ | refine Chg.drew ?_ | refine Chg.alloc ?_ _ | refine Chg.setCell ?_ (by first | (simp; done) | (simp; omega) | (intro h; simp at h; omega)) _)))
    have hp3 : Blk w3 w2.heap.size 75 #[sv, cv, .int .i64 p.within] := by rw [hw3]; exact Blk.new _ _ _
    have hck := rq_check p sv cv w3 (hL.same hc3) (hC.same hc3) hl1 hl2
    rw [checkP_eq] at hck
    have hmk := fun W (hW : Chg (fun _ => False) w3 W) => rq_make p sv cv W ((hL.same hc3).same hW) ((hC.same hc3).same hW) hl1 hl2
    have hz3 := hz2.chg hc3 (by simp)
    have hcw3 := hc.then hc3
    obtain ⟨sa, sn, sc, rfl⟩ := lst_sl rstepOk hL
    obtain ⟨ca, cn, cc, rfl⟩ := lst_sl rcondOk hC
    have y0 := hp3.cell 0
    have y1 := hp3.cell 1
    have y2 := hp3.cell 2
    simp at y0 y1 y2
    have HW3 := Lib.hid hw3
    have HCK := Lib.hid hck
    have HMK := Lib.hid hmk
    have HZ3 := Lib.hid hz3
    have HCW3 := Lib.hid hcw3
    have HP3 := Lib.hid hp3
    clear hw3 hck hmk hz3 hcw3 hp3
    clear hc hz2 hc3 hL hC hp h6 HTB
    go_upto_region 2 with fail
    rw [← HW3.out]
    go_wp2_with fail
    refine HCK.out.mono ?_
    rintro e w4 ⟨rfl, h7⟩
    rw [← hTB]
    have hz4 := HZ3.out.chg h7 (by simp)
    have hcw4 := HCW3.out.then h7
    have hp4 := HP3.out.chg h7 (by simp)
    by_cases h0 : V = 0
    · have hd : t = true := HT.out.trans (decide_eq_true h0)
      subst hd
      subst h0
      have hmk4 := HMK.out w4 h7
      clear y0 y1 y2
      have y0 := hp4.cell 0
      have y1 := hp4.cell 1
      have y2 := hp4.cell 2
      simp at y0 y1 y2
      have HZ4 := Lib.hid hz4
      have HCW4 := Lib.hid hcw4
      have HMK4 := Lib.hid hmk4
      have HTB := Lib.hid hTB
      clear hz4 hcw4 hmk4 hTB
      clear h7 hp4 HT
      go_wp2_with fail
      refine HMK4.out.mono ?_
      rintro e w5 ⟨⟨a, n, c, rfl⟩, h8⟩
      have hz5 := HZ4.out.chg h8 (by simp)
      have hcw5 := HCW4.out.then h8
      have HZ5 := Lib.hid hz5
      have HCW5 := Lib.hid hcw5
      clear hz5 hcw5
      clear h8 y0 y1 y2
      have z0 := HZ5.out.cell 0
      have z1 := HZ5.out.cell 1
      have zf0 := HZ5.out.frozen 0
      have zf1 := HZ5.out.frozen 1
      simp at z0 z1
      go_wp2_with fail
      obtain ⟨wz, hwz⟩ : ∃ wz : World, wz = (w5.setCell ⟨g, 0, none⟩ (.slice a n c)).setCell ⟨g, 1, none⟩ (.int .i64 p.within) := ⟨_, rfl⟩
      have hb9 : Blk wz g 46 #[.slice a n c, .int .i64 p.within] := by
        rw [hwz]
        have hz := (HZ5.out.set_ 0 (.slice a n c)).set_ 1 (.int .i64 p.within)
        simpa using hz
      have hcz : Chg (fun k => k = g) w5 wz := by rw [hwz]; exact Chg.seto (Chg.seto (Chg.refl _ _))
      have hcw := HCW5.out.trans hcz fun k hk e => by have : k = g := e; have := HG.out; omega
      rw [← hwz]
      have zx0 := hb9.cell 0
      have zx1 := hb9.cell 1
      simp at zx0 zx1
      exact bodyPost_ret (v := .tuple #[.agg #[.slice a n c, .int .i64 p.within], .bool true]) (by simp [results, Tryz.results10, go_sem, zx0, zx1]) rfl ⟨⟨_, _, _, _, rfl⟩, hcw⟩
    · have hd : t = false := HT.out.trans (decide_eq_false h0)
      subst hd
      have q : (V != 0) = true := by simp [h0]
      have HZ4 := Lib.hid hz4
      have HCW4 := Lib.hid hcw4
      have HTB := Lib.hid hTB
      clear hz4 hcw4 hTB
      clear h7 hp4 h0 HT y0 y1 y2
      have z0 := HZ4.out.cell 0
      have z1 := HZ4.out.cell 1
      have zf0 := HZ4.out.frozen 0
      have zf1 := HZ4.out.frozen 1
      simp at z0 z1
      go_wp2_with fail
      obtain ⟨wz, hwz⟩ : ∃ wz : World, wz = (w4.setCell ⟨g, 0, none⟩ (.slice none 0 0)).setCell ⟨g, 1, none⟩ (.int .i64 0) := ⟨_, rfl⟩
      have hb9 : Blk wz g 46 #[.slice none 0 0, .int .i64 0] := by
        rw [hwz]
        have hz := (HZ4.out.set_ 0 (.slice none 0 0)).set_ 1 (.int .i64 0)
        simpa using hz
      have hcz : Chg (fun k => k = g) w4 wz := by rw [hwz]; exact Chg.seto (Chg.seto (Chg.refl _ _))
      have hcw := HCW4.out.trans hcz fun k hk e => by have : k = g := e; have := HG.out; omega
      rw [← hwz]
      have zx0 := hb9.cell 0
      have zx1 := hb9.cell 1
      simp at zx0 zx1
      exact bodyPost_ret (v := .tuple #[.agg #[.slice none 0 0, .int .i64 0], .bool false]) (by simp [results, Tryz.results10, go_sem, zx0, zx1]) rfl ⟨⟨_, _, _, _, rfl⟩, hcw⟩
end Go.Proofs.YtjloddlkleileaaGreatDoor
