/-
  The law FeedRefuses returns true.
-/
import Derived.Test.YtjloddlkleileaaGreatDoorFrfE
import Derived.Test.YtjloddlkleileaaGreatDoorFeeR
namespace Go.Proofs.YtjloddlkleileaaGreatDoor
open Go.RowKit
set_option linter.unusedVariables false
set_option linter.unusedSimpArgs false

theorem DkB.al {w : World} {d : Nat} (h : DkB w d) (o : Obj) : DkB (w.alloc o) d := by
  obtain ⟨v0, v1, v2, v3, v4, v5, v6, v7, v8, v9, v10, v11, hb⟩ := h
  exact ⟨v0, v1, v2, v3, v4, v5, v6, v7, v8, v9, v10, v11, hb.alloc o⟩
theorem DkB.dr {w : World} {d : Nat} (h : DkB w d) : DkB w.drew d := by
  obtain ⟨v0, v1, v2, v3, v4, v5, v6, v7, v8, v9, v10, v11, hb⟩ := h
  exact ⟨v0, v1, v2, v3, v4, v5, v6, v7, v8, v9, v10, v11, hb.drew⟩
theorem disk_fresh2 (w : World) : Calls Tryz.prog 11 #[.int .i64 1073741824] w fun e w' => ∃ d, e = .returned (.pointer (some ⟨d, 0, none⟩)) ∧ DkB w' d ∧ Chg (fun _ => False) w w' ∧ w.heap.size ≤ d :=
  (disk_fresh w).mono fun e w' ⟨he, hd, hc⟩ => ⟨_, he, hd, hc, by omega⟩
theorem fc_ne {w w' : World} {p : Addr} {v : Value} {d : Nat} (hc : Chg (fun k => k = d) w w') (hp : p.block ≠ d) (h : w.cell? p = some v) : w'.cell? p = some v := (hc.cell (World.block_lt_of_cell? w p h) hp).trans h
theorem fd_play_no2 (d b : Nat) (iv : Value) (c0 c1 c2 c3 c4 l0 l1 l2 : Int) (va : Option Addr) (vn vc : Nat) (s : ByteArray) (V : Int) (hV : V = textBad s.data.toList) (hb : V ≠ 0) (w : World) (hD : DkB w d) (hL : Blk w b 52 #[.int .i64 1, .int .i64 0, .slice none 0 0]) :
    Calls Tryz.prog 7 #[.pointer (some ⟨d, 0, none⟩), .agg #[.int .i64 c0, .int .i64 c1, .int .i64 c2, .int .i64 c3, .int .i64 c4, .int .i64 l0, .int .i64 l1, .int .i64 l2, .slice va vn vc], .string s, iv, .slice (some ⟨b, 0, none⟩) 1 1] w fun e w' => e = .returned (.tuple #[.slice none 0 0, .int .i64 1, .int .i64 V]) ∧ Chg (fun k => k = d) w w' :=
  fd_play_no d b iv c0 c1 c2 c3 c4 l0 l1 l2 va vn vc s V hV hb w hD hL (by
    obtain ⟨v0, v1, v2, v3, v4, v5, v6, v7, v8, v9, v10, v11, hb⟩ := hD
    exact hL.ne_ hb (by decide))
set_option maxRecDepth 100000 in
set_option maxHeartbeats 8000000 in
theorem feed_refuses (s : ByteArray) (v : Value) (l : List ItemV) (n0 n1 n2 n3 n4 n5 n6 : Int) (h0 : -9223372036854775808 ≤ n0 ∧ n0 ≤ 9223372036854775807) (h1 : -9223372036854775808 ≤ n1 ∧ n1 ≤ 9223372036854775807) (h2 : -9223372036854775808 ≤ n2 ∧ n2 ≤ 9223372036854775807) (h3 : -9223372036854775808 ≤ n3 ∧ n3 ≤ 9223372036854775807) (cv : Value) (L : List Int) (w : World) (hR : ReadItems w v l) (hlen : l.length ≤ 1000000000) (hv : CInts w cv L) (ht : Tab w) (he : ErrOk w) (hm : MaxOk w) :
    Calls Tryz.prog 3 #[.string s, v, .agg #[.int .i64 n0, .int .i64 n1, .int .i64 n2, .int .i64 n3, .int .i64 n4, .int .i64 n5, .int .i64 n6, cv]] w fun e w' => e = .returned (.bool true) ∧ Chg (fun _ => False) w w' := by
  obtain ⟨ca, cc, rfl, _, _, _⟩ := id hv
  obtain ⟨ra, rc, rfl, _, _, _⟩ := id hR
  obtain ⟨V, hV⟩ : ∃ V, V = textBad s.data.toList := ⟨_, rfl⟩
  obtain ⟨t, htt⟩ : ∃ t, t = decide (V = 0) := ⟨_, rfl⟩
  obtain ⟨g, hg⟩ : ∃ g, w.heap.size = g := ⟨_, rfl⟩
  obtain ⟨w1, hw1⟩ : ∃ w1, w1 = w.alloc (.cells #[.int .i64 n0, .int .i64 n1, .int .i64 n2, .int .i64 n3, .int .i64 n4, .int .i64 n5, .int .i64 n6, .slice ca L.length cc] 25) := ⟨_, rfl⟩
  have hc1 : Chg (fun _ => False) w w1 := by rw [hw1]; ((repeat (first | exact Chg.refl _ _ | assumption | refine Chg.drewN ?_ _ | refine Chg.drew ?_ | refine Chg.alloc ?_ _ | refine Chg.setCell ?_ (by first | (simp; done) | (simp; omega) | (intro h; simp at h; omega)) _)))
  have hb1 : Blk w1 g 25 #[.int .i64 n0, .int .i64 n1, .int .i64 n2, .int .i64 n3, .int .i64 n4, .int .i64 n5, .int .i64 n6, .slice ca L.length cc] := by rw [hw1, ← hg]; exact Blk.new _ _ _
  have hR1 : ReadItems w1 (.slice ra l.length rc) l := by
    obtain ⟨a, cap, e, h1, h2, h3⟩ := hR
    refine ⟨a, cap, e, h1, h2, fun A x B hl => ?_⟩
    obtain ⟨b, off, ea, hb, y0, y1, y2, y3⟩ := h3 A x B hl
    exact ⟨b, off, ea, by have := hc1.size; omega, kg_chg hc1 y0, kg_chg hc1 y1, kg_chg hc1 y2, kg_chg hc1 y3⟩
  have hbo := lf_both _ l w1 hR1 hlen
  have hcf := fun W (hW : Chg (fun _ => False) w1 W) => lf_config n0 n1 n2 n3 n4 n5 n6 h0 h1 h2 h3 (.slice ca L.length cc) L W ((hv.same hc1).same hW)
  have hwk := fun W (hW : Chg (fun _ => False) w1 W) => lf_wakes W ((ht.chg hc1).chg hW) ((he.chg hc1).chg hW) ((hm.chg hc1).chg hW)
  have hpl := fun W => lf_planned s t (by rw [htt, hV]) W
  have HW1 := Lib.hid hw1
  have HC1 := Lib.hid hc1
  have HBO := Lib.hid hbo
  have HCF := Lib.hid hcf
  have HWK := Lib.hid hwk
  have HPL := Lib.hid hpl
  have HB1 := Lib.hid hb1
  have HG := Lib.hid hg
  have HTT := Lib.hid htt
  have HV := Lib.hid hV
  clear hw1 hc1 hbo hcf hwk hpl hb1 hg htt hV
  clear hR1 hR hv ht he hm h0 h1 h2 h3 hlen
  go_enter Tryz.func3, Tryz.ntmps3
  go_upto_region 1 with fail
  rw [← HW1.out, HG.out]
  go_wp2_with fail
  refine HBO.out.mono ?_
  rintro e w2 ⟨va, vb, rfl, hT⟩
  obtain ⟨xa, xc, rfl, _⟩ := item_form hT.a
  obtain ⟨ya, yc, rfl, _⟩ := doc2_form hT.b
  have hc2 := hT.chg
  have hd2 := fd_drive_nil (.slice xa l.length xc) w2
  have hm2 := fun W => fd_matches_nil W
  have HC2 := Lib.hid hc2
  have HD2 := Lib.hid hd2
  have HM2 := Lib.hid hm2
  clear hc2 hd2 hm2
  clear hT
  go_wp2_with fail
  refine HD2.out.mono ?_
  rintro e w3 ⟨rfl, h3⟩
  have hc3 := HC2.out.then h3
  have HC3 := Lib.hid hc3
  clear hc3
  clear h3
  go_wp2_with fail
  refine (HM2.out w3).mono ?_
  rintro e w4 ⟨rfl, h4⟩
  have hc4 := HC3.out.then h4
  have hb4 := HB1.out.chg hc4 (by simp)
  have hcf4 := HCF.out w4 hc4
  have y0 := hb4.cell 0
  have y1 := hb4.cell 1
  have y2 := hb4.cell 2
  have y3 := hb4.cell 3
  have y4 := hb4.cell 4
  have y5 := hb4.cell 5
  have y6 := hb4.cell 6
  have y7 := hb4.cell 7
  simp at y0 y1 y2 y3 y4 y5 y6 y7
  have HC4 := Lib.hid hc4
  have HCF4 := Lib.hid hcf4
  clear hc4 hcf4
  clear h4 hb4
  go_wp2_with fail
  refine HCF4.out.mono ?_
  rintro e w5 ⟨⟨c0, c1, c2, c3, c4, k0, k1, k2, ja, jn, jc, rfl⟩, h5⟩
  have hc5 := HC4.out.then h5
  have hp5 := fd_play_nil c0 c1 c2 c3 c4 k0 k1 k2 ja jn jc (.string s) (.slice xa l.length xc) (.slice none 0 0) w5
  have HC5 := Lib.hid hc5
  have HP5 := Lib.hid hp5
  clear hc5 hp5
  clear h5 y0 y1 y2 y3 y4 y5 y6 y7
  go_wp2_with fail
  refine HP5.out.mono ?_
  rintro e w6 ⟨rfl, h6⟩
  have hc6 := HC5.out.then h6
  have hwk6 := HWK.out w6 hc6
  have HC6 := Lib.hid hc6
  have HWK6 := Lib.hid hwk6
  clear hc6 hwk6
  clear h6
  go_wp2_with fail
  refine HWK6.out.mono ?_
  rintro e w7 ⟨rfl, h7⟩
  have hc7 := HC6.out.then h7
  have hpl7 := HPL.out w7
  have HC7 := Lib.hid hc7
  have HPL7 := Lib.hid hpl7
  clear hc7 hpl7
  clear h7
  go_wp2_with fail
  refine HPL7.out.mono ?_
  rintro e w8 ⟨⟨pa, pn, pc, pm, rfl⟩, h8⟩
  have hc8 := HC7.out.then h8
  obtain ⟨w9, hw9⟩ : ∃ w9, w9 = w8.alloc (.cells #[.slice pa pn pc, .int .i64 pm] 46) := ⟨_, rfl⟩
  have hc89 : Chg (fun _ => False) w8 w9 := by rw [hw9]; ((repeat (first | exact Chg.refl _ _ | assumption | refine Chg.drewN ?_ _ | refine Chg.drew ?_ | refine Chg.alloc ?_ _ | refine Chg.setCell ?_ (by first | (simp; done) | (simp; omega) | (intro h; simp at h; omega)) _)))
  have hc9 := hc8.then hc89
  cases t with
  | true =>
    have HC9 := Lib.hid hc9
    have HW9 := Lib.hid hw9
    clear hc9 hw9
    clear h8 hc8 hc89
    go_upto_region 8 with fail
    rw [← HW9.out]
    go_wp2_with fail
    go_ret
    exact ⟨rfl, HC1.out.then HC9.out⟩
  | false =>
    have hV0 : V ≠ 0 := of_decide_eq_false HTT.out.symm
    have q0 : decide (V = 0) = false := decide_eq_false hV0
    have q1 : (V != 0) = true := by simp [hV0]
    have hb9 := HB1.out.chg hc9 (by simp)
    have hg9 : g < w9.heap.size := hb9.lt
    have y0 := hb9.cell 0
    have y1 := hb9.cell 1
    have y2 := hb9.cell 2
    have y3 := hb9.cell 3
    have y4 := hb9.cell 4
    have y5 := hb9.cell 5
    have y6 := hb9.cell 6
    have y7 := hb9.cell 7
    simp at y0 y1 y2 y3 y4 y5 y6 y7
    have HC9 := Lib.hid hc9
    have HW9 := Lib.hid hw9
    have HV0 := Lib.hid hV0
    clear hc9 hw9 hV0
    clear h8 hc8 hc89 hb9 q0
    go_upto_region 8 with fail
    rw [← HW9.out]
    go_wp2_with fail
    go_region_held3 (fun w' => w'.cell? ⟨g, 0, none⟩ = some (.int .i64 n0) ∧ w'.cell? ⟨g, 1, none⟩ = some (.int .i64 n1) ∧ w'.cell? ⟨g, 2, none⟩ = some (.int .i64 n2) ∧ w'.cell? ⟨g, 3, none⟩ = some (.int .i64 n3) ∧ w'.cell? ⟨g, 4, none⟩ = some (.int .i64 n4) ∧ w'.cell? ⟨g, 5, none⟩ = some (.int .i64 n5) ∧ w'.cell? ⟨g, 6, none⟩ = some (.int .i64 n6) ∧ w'.cell? ⟨g, 7, none⟩ = some (.slice ca L.length cc))
      ((go_split_ands; (try dsimp only); (repeat' with_reducible apply And.intro) <;> (repeat (first | with_reducible assumption | with_reducible refine fc_drew ?_ | with_reducible refine fc_alloc _ ?_ | with_reducible refine fc_set (by simp <;> omega) ?_ | with_reducible refine fc_ne h18 (by simp <;> omega) ?_ | with_reducible refine kg_chg h17 ?_ | with_reducible refine kg_chg h16 ?_))))
      ((first
        | (go_at_call 11; (refine (disk_fresh2 _).mono ?_); rintro e w16 ⟨d, rfl, hD16, h16, hd16⟩; have hs16 : w9.heap.size ≤ d := Nat.le_trans (Chg.size (S := fun _ => False) (by (repeat (first | with_reducible assumption | with_reducible exact Chg.refl _ _ | with_reducible refine Chg.drew ?_ | with_reducible refine Chg.alloc ?_ _ | with_reducible refine Chg.then ?_ h17 | with_reducible refine Chg.then ?_ h16)))) hd16; have HD16 := Lib.hid hD16; clear hD16 hd16)
        | (go_at_call 8; (refine (HCF.out _ (Chg.then HC9.out (by (repeat (first | with_reducible assumption | with_reducible exact Chg.refl _ _ | with_reducible refine Chg.drew ?_ | with_reducible refine Chg.alloc ?_ _ | with_reducible refine Chg.then ?_ h17 | with_reducible refine Chg.then ?_ h16))))).mono ?_); rintro e w17 ⟨⟨b0, b1, b2, b3, b4, i0, i1, i2, ja', jn', jc', rfl⟩, h17⟩)
        | (go_at_call 7; (refine (fd_play_no2 d _ _ _ _ _ _ _ _ _ _ _ _ _ s V HV.out HV0.out _ (by (repeat (first | with_reducible exact HD16.out | with_reducible refine DkB.al ?_ _ | with_reducible refine DkB.dr ?_ | with_reducible refine DkB.chg ?_ h17 (by simp)))) (by show Blk _ _ 52 #[.int .i64 1, .int .i64 0, .slice none 0 0]; (repeat (first | with_reducible exact Blk.new _ _ _ | with_reducible refine Blk.drew ?_ | with_reducible refine Blk.alloc ?_ _ | with_reducible refine Blk.chg ?_ h17 (by simp) | with_reducible refine Blk.chg ?_ h16 (by simp))))).mono ?_); rintro e w18 ⟨rfl, h18⟩; have hc18 : Chg (fun _ => False) w9 w18 := (Chg.trans (by (repeat (first | with_reducible assumption | with_reducible exact Chg.refl _ _ | with_reducible refine Chg.drew ?_ | with_reducible refine Chg.alloc ?_ _ | with_reducible refine Chg.then ?_ h17 | with_reducible refine Chg.then ?_ h16))) h18 fun k hk e => by have : k = d := e; omega); have HC18 := Lib.hid hc18; clear hc18)))
    all_goals
      go_wp2_with fail
      go_ret
      exact ⟨rfl, (HC1.out.then HC9.out).then HC18.out⟩
end Go.Proofs.YtjloddlkleileaaGreatDoor
