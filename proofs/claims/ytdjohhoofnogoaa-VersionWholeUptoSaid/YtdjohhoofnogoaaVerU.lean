/-
  The walk of VersionWhole.
-/
import Derived.Test.YtdjohhoofnogoaaVerT
namespace Go.Proofs.Ytdjohhoofnogoaa
open Go.RowKit
set_option linter.unusedVariables false
set_option linter.unusedSimpArgs false

theorem whole_apply (S : VerV) (a : Option Addr) (c : Nat) (w : World) (h : Fine S) (hl : (flat S).length ≤ 41943040) (ha : Lst placeC w (.slice a (flat S).length c) (flat S)) :
    Calls Try.prog 9 #[.agg #[.slice none 0 0, .slice none 0 0, .slice none 0 0, .slice none 0 0, .int .i64 0, .int .i64 0, .int .i64 0], .agg #[.slice a (flat S).length c, .slice none 0 0, .int .i64 S.log, .int .i64 S.next, .int .i64 S.seq]] w
      fun e w' => ∃ a0 a1 a2 a3 n0 n1 n2 n3 c0 c1 c2 c3, e = .returned (.tuple #[.agg #[.slice a0 n0 c0, .slice a1 n1 c1, .slice a2 n2 c2, .slice a3 n3 c3, .int .i64 S.log, .int .i64 S.next, .int .i64 S.seq], .int .i64 0]) ∧
        VerAt w' (Lv (.slice a0 n0 c0) (.slice a1 n1 c1) (.slice a2 n2 c2) (.slice a3 n3 c3)) S.lv ∧ Chg (fun _ => False) w w' := by
  have hx := h.nx
  have hok : EdOk (wholeE S) := ⟨by simp [wholeE], fun p hp => by
    rw [show (wholeE S).add = flatF S.lv from rfl] at hp
    obtain ⟨i, hi, m, hm, rfl⟩ := mem_flatF.1 hp
    obtain ⟨_, g2, g3⟩ := h.good.ends i hi m hm
    unfold I64 at *
    exact ⟨by show -9223372036854775808 ≤ m.file; omega, by show m.file ≤ 9223372036854775807; omega⟩⟩
  refine (ver_apply VerV.none (wholeE S) (fun _ => .slice none 0 0) (.slice a (flat S).length c) (.slice none 0 0) w Good.none hok (by simp [I64, VerV.none]) (own_nil4 w) ha (Lst.nil _ _) (by simp [VerV.none]) (by show (flat S).length ≤ 50000000; omega) (by simp [wholeE])).mono ?_
  rintro e w' ⟨hc, ⟨_, L, rfl, hv, _⟩ | ⟨hno, _⟩⟩
  · have hv2 : VerAt w' L S.lv := fun i hi => by have := hv i hi; rw [whole_lv h.good hi] at this; exact this
    obtain ⟨a0, c0, e0, _⟩ := meta_form (hv2 0 (by omega))
    obtain ⟨a1, c1, e1, _⟩ := meta_form (hv2 1 (by omega))
    obtain ⟨a2, c2, e2, _⟩ := meta_form (hv2 2 (by omega))
    obtain ⟨a3, c3, e3, _⟩ := meta_form (hv2 3 (by omega))
    have hv' := Lv_all L hv2
    rw [e0, e1, e2, e3] at hv'
    exact ⟨_, _, _, _, _, _, _, _, _, _, _, _, by rw [e0, e1, e2, e3]; rfl, hv', hc⟩
  · exact absurd (whole_ok h) hno

set_option maxRecDepth 1000000 in
set_option maxHeartbeats 8000000 in
theorem ver_whole_law (A : Option Addr) (n c : Nat) (Ed : Nat → EditV) (w : World) (hn : n ≤ c) (hc : c ≤ maxLen) (hE : EdsAt w A n Ed) (hF : ∀ i, i < n → EdFine (Ed i)) :
    Calls Try.prog 5 #[.slice A n c] w fun e w' => e = .returned (.bool true) ∧ Chg (fun _ => False) w w' := by
  have ha := law_after A n c Ed w hn hc hE hF
  have HA := Lib.hid ha
  clear ha hE hF
  go_enter Try.func5, Try.ntmps5
  go_wp2_with fail
  refine HA.out.mono ?_
  rintro e w2 ⟨S, a0, a1, a2, a3, av, n0, n1, n2, n3, nv, c0, c1, c2, c3, cv, hFine, hlen, rfl, hV, hR, hc2⟩
  obtain ⟨w3, hw3⟩ : ∃ w3, w3 = (w2.alloc (.cells #[.slice a0 n0 c0, .slice a1 n1 c1, .slice a2 n2 c2, .slice a3 n3 c3, .int .i64 S.log, .int .i64 S.next, .int .i64 S.seq] 26)).alloc (.cells #[.slice av nv cv, .int .i64 S.log, .int .i64 S.next, .int .i64 S.seq] 29) := ⟨_, rfl⟩
  have hc3 : Chg (fun _ => False) w2 w3 := by rw [hw3]; ((repeat (first | exact Chg.refl _ _ | assumption | refine Chg.drewN ?_ _ | refine Chg.drew ?_ | refine Chg.alloc ?_ _ | refine Chg.setCell ?_ (by first | (simp; done) | (simp; omega) | (intro h; simp at h; omega)) _)))
  have hb : Blk w3 w2.heap.size 26 #[.slice a0 n0 c0, .slice a1 n1 c1, .slice a2 n2 c2, .slice a3 n3 c3, .int .i64 S.log, .int .i64 S.next, .int .i64 S.seq] := by rw [hw3]; exact (Blk.new w2 _ _).alloc _
  have hbr : Blk w3 (w2.heap.size + 1) 29 #[.slice av nv cv, .int .i64 S.log, .int .i64 S.next, .int .i64 S.seq] := by rw [hw3]; exact Blk.new1 w2 _ _ _
  have hw := ver_whole _ _ _ _ S w3 (hV.same hc3) hlen
  have y0 := hb.cell 0
  have y1 := hb.cell 1
  have y2 := hb.cell 2
  have y3 := hb.cell 3
  have y4 := hb.cell 4
  have y5 := hb.cell 5
  have y6 := hb.cell 6
  simp at y0 y1 y2 y3 y4 y5 y6
  have HW3 := Lib.hid hw3
  have HB3 := Lib.hid hbr
  have HC3 := Lib.hid (hc2.then hc3)
  have HR := Lib.hid (hR.same hc3)
  have HFINE := Lib.hid hFine
  have HLEN := Lib.hid hlen
  have HW := Lib.hid hw
  clear hw3 hb hbr hc3 hc2 hV hR hFine hlen HA hw
  go_upto_region 2 with fail
  rw [← HW3.out]
  go_wp2_with fail
  refine HW.out.mono ?_
  rintro e w4 ⟨pa, pc, rfl, hP, hc4⟩
  have hap := whole_apply S pa pc w4 HFINE.out HLEN.out hP
  have HAP := Lib.hid hap
  have HC4 := Lib.hid hc4
  clear hap hP hc4 HW y0 y1 y2 y3 y4 y5 y6
  go_wp2_with fail
  refine HAP.out.mono ?_
  rintro e w5 ⟨p0, p1, p2, p3, m0, m1, m2, m3, d0, d1, d2, d3, rfl, hV5, hc5⟩
  obtain ⟨w6, hw6⟩ : ∃ w6, w6 = w5.alloc (.cells #[.slice p0 m0 d0, .slice p1 m1 d1, .slice p2 m2 d2, .slice p3 m3 d3, .int .i64 S.log, .int .i64 S.next, .int .i64 S.seq] 26) := ⟨_, rfl⟩
  have hc56 : Chg (fun _ => False) w5 w6 := by rw [hw6]; ((repeat (first | exact Chg.refl _ _ | assumption | refine Chg.drewN ?_ _ | refine Chg.drew ?_ | refine Chg.alloc ?_ _ | refine Chg.setCell ?_ (by first | (simp; done) | (simp; omega) | (intro h; simp at h; omega)) _)))
  have hc36 := (HC4.out.then hc5).then hc56
  have hb : Blk w6 w5.heap.size 26 #[.slice p0 m0 d0, .slice p1 m1 d1, .slice p2 m2 d2, .slice p3 m3 d3, .int .i64 S.log, .int .i64 S.next, .int .i64 S.seq] := by rw [hw6]; exact Blk.new w5 _ _
  have hwk := law_wakes w6
  have HWK := Lib.hid hwk
  have HW6 := Lib.hid hw6
  have HB6 := Lib.hid hb
  have HBR6 := Lib.hid (HB3.out.chg hc36 (by simp))
  have HV6 := Lib.hid (hV5.same hc56)
  have HR6 := Lib.hid (HR.out.same hc36)
  have HC6 := Lib.hid (HC3.out.then hc36)
  clear hw6 hc56 hc36 hb hwk hV5 hc5 HAP
  go_upto_region 3 with fail
  rw [← HW6.out]
  go_wp2_with fail
  refine HWK.out.mono ?_
  rintro e w7 ⟨rfl, hc7⟩
  have b7 := HB6.out.chg hc7 (by simp)
  have r7 := HBR6.out.chg hc7 (by simp)
  have hsm : Calls Try.prog 11 #[.agg #[.slice p0 m0 d0, .slice p1 m1 d1, .slice p2 m2 d2, .slice p3 m3 d3, .int .i64 S.log, .int .i64 S.next, .int .i64 S.seq], .agg #[.slice av nv cv, .int .i64 S.log, .int .i64 S.next, .int .i64 S.seq]] w7 fun e w' => e = .returned (.bool true) ∧ Chg (fun _ => False) w7 w' := same_at S _ _ _ _ _ w7 (HV6.out.same hc7) (HR6.out.same hc7) HLEN.out
  have y0 := b7.cell 0
  have y1 := b7.cell 1
  have y2 := b7.cell 2
  have y3 := b7.cell 3
  have y4 := b7.cell 4
  have y5 := b7.cell 5
  have y6 := b7.cell 6
  have z0 := r7.cell 0
  have z1 := r7.cell 1
  have z2 := r7.cell 2
  have z3 := r7.cell 3
  simp at y0 y1 y2 y3 y4 y5 y6 z0 z1 z2 z3
  have HSM := Lib.hid hsm
  have HC7 := Lib.hid (HC6.out.then hc7)
  clear b7 r7 hsm hc7
  go_wp2_with fail
  refine HSM.out.mono ?_
  rintro e w8 ⟨rfl, hc8⟩
  have HC8 := Lib.hid (HC7.out.then hc8)
  clear hc8
  go_wp2_with fail
  go_ret
  exact ⟨rfl, HC8.out⟩
end Go.Proofs.Ytdjohhoofnogoaa
