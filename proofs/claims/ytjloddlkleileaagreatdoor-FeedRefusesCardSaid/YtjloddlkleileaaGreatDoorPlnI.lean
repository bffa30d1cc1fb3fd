/-
  The document's plan: Make returns, and leaves what was there alone.
-/
import Derived.Test.YtjloddlkleileaaGreatDoorPlnE
namespace Go.Proofs.YtjloddlkleileaaGreatDoor
open Go.RowKit
set_option linter.unusedVariables false
set_option linter.unusedSimpArgs false

structure TestV where
  op : Int
  step : Int
  add : Int
  turn : Bool
structure PosV where
  kind : UInt8
  no : Bool
  min : Int
  max : Int
  a : Option Addr
  n : Nat
  c : Nat
def rtestC : Codec TestV := ⟨fun x => [.int .i64 x.op, .int .i64 x.step, .int .i64 x.add, .bool x.turn], 4, 146, 141, .agg #[.int .i64 0, .int .i64 0, .int .i64 0, .bool false], 32⟩
def rposC : Codec PosV := ⟨fun x => [bV x.kind, .bool x.no, .int .i64 x.min, .int .i64 x.max, .slice x.a x.n x.c], 5, 143, 44, .agg #[.int .u8 0, .bool false, .int .i64 0, .int .i64 0, .slice none 0 0], 48⟩
theorem rtestOk : rtestC.Ok := ⟨fun _ => rfl, by decide, fun x v hv => by simp [rtestC] at hv; rcases hv with rfl | rfl | rfl | rfl <;> rfl, Tryz.underlying141, by kernel_rfl, rfl, by decide⟩
theorem rposOk : rposC.Ok := ⟨fun _ => rfl, by decide, fun x v hv => by simp [rposC] at hv; rcases hv with rfl | rfl | rfl | rfl | rfl <;> rfl, Tryz.underlying44, by kernel_rfl, rfl, by decide⟩
/-- A step's tests under way: the step x lies in block b, its tests in a list made since the world w0. -/
structure MX (w0 w : World) (b : Nat) (kd : UInt8) (no : Bool) (mn mx : Int) (v : Value) (T : List TestV) : Prop where
  blk : Blk w b 143 #[bV kd, .bool no, .int .i64 mn, .int .i64 mx, v]
  tests : Lst rtestC w v T
  own : ∀ k, v.ownBlock = some k → w0.heap.size ≤ k
  hb : w0.heap.size ≤ b
  chg : Chg (fun _ => False) w0 w
section
variable {w0 w w' : World} {b : Nat} {kd : UInt8} {no : Bool} {mn mx : Int} {v : Value} {T : List TestV}
theorem MX.ne (h : MX w0 w b kd no mn mx v T) : ¬ (fun k => v.ownBlock = some k) b := fun e => by
  obtain ⟨cs, hB⟩ := h.tests.typed e
  exact hB.ne_ h.blk (by decide) rfl
theorem MX.same (h : MX w0 w b kd no mn mx v T) (hc : Chg (fun _ => False) w w') : MX w0 w' b kd no mn mx v T := ⟨h.blk.chg hc (by simp), h.tests.same hc, h.own, h.hb, h.chg.then hc⟩
theorem MX.set {t : Nat} (h : MX w0 w b kd no mn mx v T) (hc : Chg (fun k => k = t) w w') (h1 : t ≠ b) (h2 : ∀ k, v.ownBlock = some k → k ≠ t) (h3 : w0.heap.size ≤ t) : MX w0 w' b kd no mn mx v T :=
  ⟨h.blk.chg hc (fun e => h1 e.symm), h.tests.chg hc fun k hk e => h2 k hk e, h.own, h.hb, h.chg.trans hc fun k hk e => by have : k = t := e; omega⟩
theorem MX.push {w4 : World} {v' : Value} {t : TestV} (h : MX w0 w b kd no mn mx v T) (hO : Lst rtestC w4 v' (T ++ [t])) (hc : Chg (fun k => v.ownBlock = some k) w w4) (hk : ∀ k, v'.ownBlock = some k → v.ownBlock = some k ∨ w.heap.size ≤ k) : MX w0 (w4.setCell ⟨b, 4, none⟩ v') b kd no mn mx v' (T ++ [t]) := by
  have hset : Chg (fun k => k = b) w4 (w4.setCell ⟨b, 4, none⟩ v') := Chg.seto (Chg.refl _ _)
  have hg := h.chg.size
  have hb4 := h.blk.chg hc h.ne
  refine ⟨by simpa using hb4.set_ 4 v', hO.chg hset fun k hk' e => ?_, fun k hk' => ?_, h.hb, (h.chg.trans hc fun k hk' e => by have := h.own k e; omega).trans hset fun k hk' e => by have := h.hb; have : k = b := e; omega⟩
  · obtain ⟨cs, hB⟩ := hO.typed hk'
    exact hB.ne_ hb4 (by decide) e
  · rcases hk k hk' with e | e
    · exact h.own k e
    · omega
end
/- the test t of block bt, whose cells are these, is appended: cells · TestV · the region behind -/
/- behind a call, or new memory: world's name; the change is h6 -/
/- the test's cells, for a store -/
/- a field of the test is set: world · field · value · new world -/
/- no test of this condition -/
set_option maxRecDepth 100000 in
set_option maxHeartbeats 8000000 in
theorem rq_make (p : PatV) (sv cv : Value) (w : World) (hL : Lst rstepC w sv p.steps) (hC : Lst rcondC w cv p.conds) (hl : p.steps.length ≤ 4096) (hl2 : p.conds.length ≤ 4096) : Calls Tryz.prog 25 #[.agg #[sv, cv, .int .i64 p.within]] w fun e w' => (∃ a n c, e = .returned (.agg #[.slice a n c, .int .i64 p.within])) ∧ Chg (fun _ => False) w w' := by
  obtain ⟨L, C, n⟩ := p
  dsimp only at *
  obtain ⟨a, cap, rfl, hlc, hr⟩ := rstep_at hL
  obtain ⟨a2, cap2, rfl, hlc2, hr2⟩ := rcond_at hC
  obtain ⟨bp, hbp⟩ : ∃ b, w.heap.size = b := ⟨_, rfl⟩
  obtain ⟨g, hg⟩ : ∃ g, bp + 1 = g := ⟨_, rfl⟩
  obtain ⟨q, hq⟩ : ∃ q, g + 1 = q := ⟨_, rfl⟩
  obtain ⟨w1, hw1⟩ : ∃ w1, w1 = ((w.alloc (.cells #[.slice a L.length cap, .slice a2 C.length cap2, .int .i64 n] 75)).alloc (.cells #[.slice none 0 0, .int .i64 0] 46)).alloc (.cells #[.slice none 0 0, .int .i64 n] 46) := ⟨_, rfl⟩
  have hc1 : Chg (fun _ => False) w w1 := by rw [hw1]; ((repeat (first | exact Chg.refl _ _ | assumption | refine Chg.drewN ?_ _ | refine Chg.drew ?_ | refine Chg.alloc ?_ _ | refine Chg.setCell ?_ (by first | (simp; done) | (simp; omega) | (intro h; simp at h; omega)) _)))
  have hp1 : Blk w1 bp 75 #[.slice a L.length cap, .slice a2 C.length cap2, .int .i64 n] := by rw [hw1, ← hbp]; exact ((Blk.new _ _ _).alloc _).alloc _
  have hg1 : Blk w1 g 46 #[.slice none 0 0, .int .i64 0] := by rw [hw1, ← hg, ← hbp]; exact (Blk.new1 _ _ _ _).alloc _
  have hq1 : Blk w1 q 46 #[.slice none 0 0, .int .i64 n] := by rw [hw1, ← hq, ← hg, ← hbp]; exact Blk.new2 _ _ _ _ _
  have hwq : w.heap.size ≤ q := by omega
  have hgq : g ≠ q := by omega
  have hfind := fun (d : UInt8) W (hW : Chg (fun _ => False) w W) => rq_find L (.slice a L.length cap) (.slice a2 C.length cap2) n d W (hL.same hW) hl
  have hpos := fun (j : Int) (hj : j ≤ L.length) W (hW : Chg (fun _ => False) w W) => rq_positive L j (.slice a L.length cap) (.slice a2 C.length cap2) n W (hL.same hW) hl hj
  have HW1 := Lib.hid hw1
  have HC1 := Lib.hid hc1
  have HP1 := Lib.hid hp1
  have HG1 := Lib.hid hg1
  have HQ1 := Lib.hid hq1
  have HR := Lib.hid hr
  have HRC := Lib.hid hr2
  have HBP := Lib.hid hbp
  have HG := Lib.hid hg
  have HQ := Lib.hid hq
  have HFIND := Lib.hid hfind
  have HPOS := Lib.hid hpos
  clear hw1 hc1 hp1 hg1 hq1 hr hr2 hbp hg hq hfind hpos
  clear hL hC
  go_enter Tryz.func25, Tryz.ntmps25
  go_upto_region 2 with fail
  rw [← HW1.out, HBP.out, HG.out, HQ.out]
  go_wp2_with fail
  go_loopw [4] (fun u wr => ∃ (i : Nat) (sa : Option Addr) (sc : Nat) (O : List PosV), u = .int .i64 (i : Int) ∧ i ≤ L.length ∧ O.length ≤ i ∧ Blk wr bp 75 #[.slice a L.length cap, .slice a2 C.length cap2, .int .i64 n] ∧ Blk wr g 46 #[.slice none 0 0, .int .i64 0] ∧ Blk wr q 46 #[.slice sa O.length sc, .int .i64 n] ∧ Lst rposC wr (.slice sa O.length sc) O ∧ (∀ b, (Value.slice sa O.length sc).ownBlock = some b → w.heap.size ≤ b) ∧ Chg (fun _ => False) w wr) (fun u _ => L.length - (intOf u).toNat)
  case atStart => exact ⟨0, none, 0, [], rfl, Nat.zero_le _, by simp, HP1.out, HG1.out, HQ1.out, Lst.nil _ _, by simp [Value.ownBlock], HC1.out⟩
  case round =>
    obtain ⟨i, sa, sc, O, rfl, hi, hoi, hpr, hgr, hqr, hO, hown, hcr⟩ := hrel
    have y0 := hpr.cell 0
    have y1 := hpr.cell 1
    have y2 := hpr.cell 2
    simp at y0 y1 y2
    by_cases hlt : i < L.length
    · obtain ⟨x, hA, hB, _⟩ := split_at' hlt
      obtain ⟨b0, eb, hb0, x0, x1, x2, x3, x4⟩ := HR.out _ _ _ hA
      rw [hB] at x0 x1 x2 x3 x4
      have x0 := px_chg hcr (by simp) x0
      have x1 := px_chg hcr (by simp) x1
      have x2 := px_chg hcr (by simp) x2
      have x3 := px_chg hcr (by simp) x3
      have x4 := px_chg hcr (by simp) x4
      subst eb
      have qlt : decide ((i : Int) < (L.length : Int)) = true := by simp; omega
      obtain ⟨kd, nm, no, mn, mx⟩ := x
      dsimp only at *
      obtain ⟨wi, hwi⟩ : ∃ wi, wi = wr.alloc (.cells #[bV kd, bV nm, .bool no, .int .i64 mn, .int .i64 mx] 130) := ⟨_, rfl⟩
      obtain ⟨wx, hwx⟩ : ∃ wx, wx = wi.alloc (.cells #[bV kd, .bool no, .int .i64 mn, .int .i64 mx, .slice none 0 0] 143) := ⟨_, rfl⟩
      have hci : Chg (fun _ => False) wr wi := by rw [hwi]; ((repeat (first | exact Chg.refl _ _ | assumption | refine Chg.drewN ?_ _ | refine Chg.drew ?_ | refine Chg.alloc ?_ _ | refine Chg.setCell ?_ (by first | (simp; done) | (simp; omega) | (intro h; simp at h; omega)) _)))
      have hsx : Blk wi wr.heap.size 130 #[bV kd, bV nm, .bool no, .int .i64 mn, .int .i64 mx] := by rw [hwi]; exact Blk.new _ _ _
      obtain ⟨bx, hbx⟩ : ∃ b, wi.heap.size = b := ⟨_, rfl⟩
      have hmx : MX wi wx bx kd no mn mx (.slice none 0 0) [] := ⟨by rw [hwx, ← hbx]; exact Blk.new _ _ _, Lst.nil _ _, by simp [Value.ownBlock], by omega, by rw [hwx]; ((repeat (first | exact Chg.refl _ _ | assumption | refine Chg.drewN ?_ _ | refine Chg.drew ?_ | refine Chg.alloc ?_ _ | refine Chg.setCell ?_ (by first | (simp; done) | (simp; omega) | (intro h; simp at h; omega)) _)))⟩
      have hcwi := hcr.then hci
      have hpi := hpr.chg hci (by simp)
      have hgi := hgr.chg hci (by simp)
      have hqi := hqr.chg hci (by simp)
      have hOi := hO.same hci
      have HA := Lib.hid hA
      have HB := Lib.hid hB
      have HO := Lib.hid hO
      have HOWN := Lib.hid hown
      have HCR := Lib.hid hcr
      have HPR := Lib.hid hpr
      have HGR := Lib.hid hgr
      have HQR := Lib.hid hqr
      have HWI := Lib.hid hwi
      have HWX := Lib.hid hwx
      have HSX := Lib.hid hsx
      have HBX := Lib.hid hbx
      have HM := Lib.hid hmx
      have HCWI := Lib.hid hcwi
      have HPI := Lib.hid hpi
      have HGI := Lib.hid hgi
      have HQI := Lib.hid hqi
      have HOI := Lib.hid hOi
      clear hA hB hO hown hcr hpr hgr hqr hwi hwx hsx hbx hmx hcwi hpi hgi hqi hOi
      clear hci
      go_upto_region 6 with fail
      rw [← HWI.out]
      clear x0 x1 x2 x3 x4 y0 y1 y2
      have x0 := HSX.out.cell 0
      have x2 := HSX.out.cell 2
      have x3 := HSX.out.cell 3
      have x4 := HSX.out.cell 4
      simp at x0 x2 x3 x4
      go_upto_region 7 with fail
      rw [← HWX.out, HBX.out]
      clear x0 x2 x3 x4
      go_wp2_with fail
      go_loopw [7] (fun u wz => ∃ (k : Nat) (ta : Option Addr) (tc : Nat) (T : List TestV), u = .int .i64 (k : Int) ∧ k ≤ C.length ∧ T.length ≤ k ∧ MX wi wz bx kd no mn mx (.slice ta T.length tc) T) (fun u _ => C.length - (intOf u).toNat)
      case atStart => exact ⟨0, none, 0, [], rfl, Nat.zero_le _, by simp, HM.out⟩
      case round =>
        clear HM
        obtain ⟨k, ta, tc, T, rfl, hk, htk, hm⟩ := hrel
        have hcwz := HCWI.out.then hm.chg
        have hpz := HPI.out.chg hm.chg (by simp)
        have y0 := hpz.cell 0
        have y1 := hpz.cell 1
        have y2 := hpz.cell 2
        simp at y0 y1 y2
        by_cases hlk : k < C.length
        · obtain ⟨c, hcA, hcB, _⟩ := split_at' hlk
          obtain ⟨bC, ebC, _, c0, c1, c2, c3⟩ := HRC.out _ _ _ hcA
          rw [hcB] at c0 c1 c2 c3
          have c0 := px_chg hcwz (by simp) c0
          have c1 := px_chg hcwz (by simp) c1
          have c2 := px_chg hcwz (by simp) c2
          have c3 := px_chg hcwz (by simp) c3
          subst ebC
          have qlk : decide ((k : Int) < (C.length : Int)) = true := by simp; omega
          have hik := IntWalk.i64_in ((k : Int) + 1) (by omega)
          have htl : T.length ≤ 1000000000 := by omega
          obtain ⟨lf, op, rt, ad⟩ := c
          dsimp only at *
          obtain ⟨v1, hv1⟩ : ∃ v1, v1 = wr.alloc (.cells #[bV lf, .int .i64 op, bV rt, .int .i64 ad] 135) := ⟨_, rfl⟩
          have hcv : Chg (fun _ => False) wr v1 := by rw [hv1]; ((repeat (first | exact Chg.refl _ _ | assumption | refine Chg.drewN ?_ _ | refine Chg.drew ?_ | refine Chg.alloc ?_ _ | refine Chg.setCell ?_ (by first | (simp; done) | (simp; omega) | (intro h; simp at h; omega)) _)))
          have hz1 : Blk v1 wr.heap.size 135 #[bV lf, .int .i64 op, bV rt, .int .i64 ad] := by rw [hv1]; exact Blk.new _ _ _
          obtain ⟨bc, hbc⟩ : ∃ b, wr.heap.size = b := ⟨_, rfl⟩
          rw [hbc] at hz1
          obtain ⟨F1, hF1⟩ : ∃ F, findP L lf = F := ⟨_, rfl⟩
          obtain ⟨F2, hF2⟩ : ∃ F, findP L rt = F := ⟨_, rfl⟩
          have hr1 := findP_range L lf
          have hr2 := findP_range L rt
          have hf1 := HFIND.out lf
          have hf2 := HFIND.out rt
          rw [hF1] at hr1 hf1
          rw [hF2] at hr2 hf2
          have hrt : ((rt.toNat : Int) == 0) = decide (rt = 0) := by
            by_cases h : rt = 0
            · subst h; rfl
            · rw [decide_eq_false h, beq_eq_false_iff_ne]
              intro e
              exact h (UInt8.toNat_inj.1 (by have : (0 : UInt8).toNat = 0 := rfl; omega))
          have HV1 := Lib.hid hv1
          have HBC := Lib.hid hbc
          have HFA := Lib.hid hf1
          have HFB := Lib.hid hf2
          have HCA := Lib.hid hcA
          have HCB := Lib.hid hcB
          have HM := Lib.hid hm
          have HCWZ := Lib.hid hcwz
          have HPZ := Lib.hid hpz
          have HRT := Lib.hid hrt
          have HF1 := Lib.hid hF1
          have HF2 := Lib.hid hF2
          clear hv1 hbc hf1 hf2 hcA hcB hm hcwz hpz hrt hF1 hF2
          go_upto_region 11 with fail
          rw [← HV1.out, HBC.out]
          have hm1 := HM.out.same hcv
          have hpv := HPZ.out.chg hcv (by simp)
          have hcw1 := HCWZ.out.then hcv
          clear c0 c1 c2 c3 y0 y1 y2 HM HPZ HCWZ hcv
          have y0 := hpv.cell 0
          have y1 := hpv.cell 1
          have y2 := hpv.cell 2
          simp at y0 y1 y2
          have z0 := hz1.cell 0
          simp at z0
          have HM := Lib.hid hm1
          have HPZ := Lib.hid hpv
          have HCWZ := Lib.hid hcw1
          have HZ := Lib.hid hz1
          clear hm1 hpv hcw1 hz1
          go_wp2_with fail
          refine (HFA.out v1 HCWZ.out).mono ?_
          rintro e v2 ⟨rfl, h6⟩
          have hm1 := HM.out.same h6
          have hpv := HPZ.out.chg h6 (by simp)
          have hcw1 := HCWZ.out.then h6
          have hz1 := HZ.out.chg h6 (by simp)
          clear HM HPZ HCWZ HZ h6
          have HM := Lib.hid hm1
          have HPZ := Lib.hid hpv
          have HCWZ := Lib.hid hcw1
          have HZ := Lib.hid hz1
          clear hm1 hpv hcw1 hz1
          clear y0 y1 y2 z0
          obtain ⟨v3, hv3⟩ : ∃ v3, v3 = v2.alloc (.cells #[.int .i64 op, .int .i64 0, .int .i64 ad, .bool false] 146) := ⟨_, rfl⟩
          have h6 : Chg (fun _ => False) v2 v3 := by rw [hv3]; ((repeat (first | exact Chg.refl _ _ | assumption | refine Chg.drewN ?_ _ | refine Chg.drew ?_ | refine Chg.alloc ?_ _ | refine Chg.setCell ?_ (by first | (simp; done) | (simp; omega) | (intro h; simp at h; omega)) _)))
          have ht3 : Blk v3 v2.heap.size 146 #[.int .i64 op, .int .i64 0, .int .i64 ad, .bool false] := by rw [hv3]; exact Blk.new _ _ _
          obtain ⟨bt, hbt⟩ : ∃ b, v2.heap.size = b := ⟨_, rfl⟩
          rw [hbt] at ht3
          have htn : ∀ k, (Value.slice ta T.length tc).ownBlock = some k → k ≠ bt := fun k hk => by have := HM.out.tests.lt hk; omega
          have hbw : wi.heap.size ≤ bt := by have := HM.out.chg.size; omega
          have hbtx : bt ≠ bx := ht3.ne_ (HM.out.same h6).blk (by decide)
          have z1 := HZ.out.cell 1
          have z3 := HZ.out.cell 3
          simp at z1 z3
          have HT := Lib.hid ht3
          have HV3 := Lib.hid hv3
          have HBT := Lib.hid hbt
          have HTN := Lib.hid htn
          clear ht3 hv3 hbt htn
          go_upto_region 13 with fail
          rw [← HV3.out, HBT.out]
          have hm1 := HM.out.same h6
          have hpv := HPZ.out.chg h6 (by simp)
          have hcw1 := HCWZ.out.then h6
          have hz1 := HZ.out.chg h6 (by simp)
          clear HM HPZ HCWZ HZ h6
          have HM := Lib.hid hm1
          have HPZ := Lib.hid hpv
          have HCWZ := Lib.hid hcw1
          have HZ := Lib.hid hz1
          clear hm1 hpv hcw1 hz1
          clear z1 z3
          have z2 := HZ.out.cell 2
          simp at z2
          have hbv : bV rt = .int .u8 (rt.toNat : Int) := rfl
          rw [hbv] at z2
          clear hbv
          by_cases hr0 : rt = 0
          · have q6 : ((rt.toNat : Int) == 0) = true := by rw [HRT.out]; exact decide_eq_true hr0
            clear hr0
            by_cases e1 : F1 = (i : Int)
            · have q7 : (F1 == (i : Int)) = true := beq_iff_eq.2 e1
              clear e1
              have t0 := HT.out.cell 0
              have t1 := HT.out.cell 1
              have t2 := HT.out.cell 2
              have t3 := HT.out.cell 3
              have tf1 := HT.out.frozen 1
              have tf3 := HT.out.frozen 3
              simp at t0 t1 t2 t3
              go_upto_region 16 with fail
              obtain ⟨v4, hwv4⟩ : ∃ w', w' = v3.setCell ⟨bt, 1, none⟩ (.int .i64 (-1)) := ⟨_, rfl⟩
              rw [← hwv4]
              have hsc : Chg (fun k => k = bt) v3 v4 := by rw [hwv4]; exact Chg.seto (Chg.refl _ _)
              have hm1 := HM.out.set hsc hbtx HTN.out hbw
              have ht5 := HT.out.setw hwv4
              simp only [List.setIfInBounds_toArray, List.set_cons_zero, List.set_cons_succ] at ht5
              clear HM HT hsc hwv4 t0 t1 t2 t3 tf1 tf3
              have HM := Lib.hid hm1
              have HT := Lib.hid ht5
              clear hm1 ht5
              have t0 := HT.out.cell 0
              have t1 := HT.out.cell 1
              have t2 := HT.out.cell 2
              have t3 := HT.out.cell 3
              have tf1 := HT.out.frozen 1
              have tf3 := HT.out.frozen 3
              simp at t0 t1 t2 t3
              have u4 := HM.out.blk.cell 4
              simp at u4
              go_wp2_with (at_builtin; refine wpList_lst_app rtestOk _ (by rfl) _ _ (by rfl) T (.slice ta T.length tc) (⟨op, -1, ad, false⟩ : TestV) (by rfl) (HM.out.tests.same ((Chg.refl _ _).alloc _)) _ (by rfl) htl (by show Blk _ _ 146 #[.int .i64 op, .int .i64 (-1), .int .i64 ad, .bool false]; exact Blk.new _ _ _) ?_)
              intro v' w5 hO hc5 hk5
              obtain ⟨a5, n5, p5, rfl⟩ := lst_sl rtestOk hO
              have hma := HM.out.same ((Chg.refl _ _).alloc (.cells #[.int .i64 op, .int .i64 (-1), .int .i64 ad, .bool false] 146))
              have hb5 := hma.blk.chg hc5 hma.ne
              have hm6 := hma.push hO hc5 (fun k hk => by have := hk5 k hk; simpa using this)
              have e : n5 = T.length + 1 := by
                obtain ⟨a', c', e', _⟩ := hm6.tests.form rtestOk
                injection e' with _ e' _
                rw [e']; simp
              subst e
              have u4 := hb5.cell 4
              have uf4 := hb5.frozen 4
              simp at u4
              obtain ⟨w6, hw6⟩ : ∃ w6, w6 = w5.setCell ⟨bx, 4, none⟩ (.slice a5 (T.length + 1) p5) := ⟨_, rfl⟩
              rw [← hw6] at hm6
              clear hO hc5 hk5 hma hb5 HM
              have HM := Lib.hid hm6
              have HW6 := Lib.hid hw6
              clear hm6 hw6
              go_wp2_with fail
              rw [← HW6.out]
              have hm := HM.out
              rw [show T.length + 1 = (T ++ [(⟨op, -1, ad, false⟩ : TestV)]).length by simp] at hm
              exact ⟨⟨k + 1, a5, p5, T ++ [(⟨op, -1, ad, false⟩ : TestV)], by simp [hik], by omega, by simp; omega, hm⟩, by simp [intOf, hik]; omega⟩
            · have q7 : (F1 == (i : Int)) = false := by rw [beq_eq_false_iff_ne]; exact e1
              clear e1
              go_wp2_with fail
              exact ⟨⟨k + 1, ta, tc, T, by simp [hik], by omega, by omega, HM.out⟩, by simp [intOf, hik]; omega⟩
          have q6 : ((rt.toNat : Int) == 0) = false := by rw [HRT.out]; exact decide_eq_false hr0
          clear hr0
          have y0 := HPZ.out.cell 0
          have y1 := HPZ.out.cell 1
          have y2 := HPZ.out.cell 2
          simp at y0 y1 y2
          go_wp2_with fail
          refine (HFB.out v3 HCWZ.out).mono ?_
          rintro e v4 ⟨rfl, h6⟩
          have ht4 := HT.out.chg h6 (by simp)
          clear HT
          have HT := Lib.hid ht4
          clear ht4
          have hm1 := HM.out.same h6
          have hpv := HPZ.out.chg h6 (by simp)
          have hcw1 := HCWZ.out.then h6
          have hz1 := HZ.out.chg h6 (by simp)
          clear HM HPZ HCWZ HZ h6
          have HM := Lib.hid hm1
          have HPZ := Lib.hid hpv
          have HCWZ := Lib.hid hcw1
          have HZ := Lib.hid hz1
          clear hm1 hpv hcw1 hz1
          clear y0 y1 y2 z2
          have y0 := HPZ.out.cell 0
          have y1 := HPZ.out.cell 1
          have y2 := HPZ.out.cell 2
          simp at y0 y1 y2
          by_cases e1 : F1 = (i : Int)
          · have q7 : (F1 == (i : Int)) = true := beq_iff_eq.2 e1
            have p7 : decide (F1 < (i : Int)) = false := by simp; omega
            by_cases e2 : F2 = (i : Int)
            · have q8 : (F2 == (i : Int)) = true := beq_iff_eq.2 e2
              have p8 : decide (F2 < (i : Int)) = false := by simp; omega
              clear e1 e2
              have t0 := HT.out.cell 0
              have t1 := HT.out.cell 1
              have t2 := HT.out.cell 2
              have t3 := HT.out.cell 3
              have tf1 := HT.out.frozen 1
              have tf3 := HT.out.frozen 3
              simp at t0 t1 t2 t3
              go_upto_region 20 with fail
              obtain ⟨v5, hwv5⟩ : ∃ w', w' = v4.setCell ⟨bt, 1, none⟩ (.int .i64 (-2)) := ⟨_, rfl⟩
              rw [← hwv5]
              have hsc : Chg (fun k => k = bt) v4 v5 := by rw [hwv5]; exact Chg.seto (Chg.refl _ _)
              have hm1 := HM.out.set hsc hbtx HTN.out hbw
              have ht5 := HT.out.setw hwv5
              simp only [List.setIfInBounds_toArray, List.set_cons_zero, List.set_cons_succ] at ht5
              clear HM HT hsc hwv5 t0 t1 t2 t3 tf1 tf3
              have HM := Lib.hid hm1
              have HT := Lib.hid ht5
              clear hm1 ht5
              have t0 := HT.out.cell 0
              have t1 := HT.out.cell 1
              have t2 := HT.out.cell 2
              have t3 := HT.out.cell 3
              have tf1 := HT.out.frozen 1
              have tf3 := HT.out.frozen 3
              simp at t0 t1 t2 t3
              have u4 := HM.out.blk.cell 4
              simp at u4
              go_wp2_with (at_builtin; refine wpList_lst_app rtestOk _ (by rfl) _ _ (by rfl) T (.slice ta T.length tc) (⟨op, -2, ad, false⟩ : TestV) (by rfl) (HM.out.tests.same ((Chg.refl _ _).alloc _)) _ (by rfl) htl (by show Blk _ _ 146 #[.int .i64 op, .int .i64 (-2), .int .i64 ad, .bool false]; exact Blk.new _ _ _) ?_)
              intro v' w5 hO hc5 hk5
              obtain ⟨a5, n5, p5, rfl⟩ := lst_sl rtestOk hO
              have hma := HM.out.same ((Chg.refl _ _).alloc (.cells #[.int .i64 op, .int .i64 (-2), .int .i64 ad, .bool false] 146))
              have hb5 := hma.blk.chg hc5 hma.ne
              have hm6 := hma.push hO hc5 (fun k hk => by have := hk5 k hk; simpa using this)
              have e : n5 = T.length + 1 := by
                obtain ⟨a', c', e', _⟩ := hm6.tests.form rtestOk
                injection e' with _ e' _
                rw [e']; simp
              subst e
              have u4 := hb5.cell 4
              have uf4 := hb5.frozen 4
              simp at u4
              obtain ⟨w6, hw6⟩ : ∃ w6, w6 = w5.setCell ⟨bx, 4, none⟩ (.slice a5 (T.length + 1) p5) := ⟨_, rfl⟩
              rw [← hw6] at hm6
              clear hO hc5 hk5 hma hb5 HM
              have HM := Lib.hid hm6
              have HW6 := Lib.hid hw6
              clear hm6 hw6
              go_wp2_with fail
              rw [← HW6.out]
              have hm := HM.out
              rw [show T.length + 1 = (T ++ [(⟨op, -2, ad, false⟩ : TestV)]).length by simp] at hm
              exact ⟨⟨k + 1, a5, p5, T ++ [(⟨op, -2, ad, false⟩ : TestV)], by simp [hik], by omega, by simp; omega, hm⟩, by simp [intOf, hik]; omega⟩
            · have q8 : (F2 == (i : Int)) = false := by rw [beq_eq_false_iff_ne]; exact e2
              by_cases e3 : F2 < (i : Int)
              · have p8 : decide (F2 < (i : Int)) = true := by simp; omega
                have hps := HPOS.out F2 (by omega)
                clear e1 e2 e3
                have HPS := Lib.hid hps
                clear hps
                go_wp2_with fail
                refine (HPS.out v4 HCWZ.out).mono ?_
                rintro e v5 ⟨m, _, _, rfl, h6⟩
                have ht5 := HT.out.chg h6 (by simp)
                clear HT
                have HT := Lib.hid ht5
                clear ht5
                have hm1 := HM.out.same h6
                have hpv := HPZ.out.chg h6 (by simp)
                have hcw1 := HCWZ.out.then h6
                have hz1 := HZ.out.chg h6 (by simp)
                clear HM HPZ HCWZ HZ h6
                have HM := Lib.hid hm1
                have HPZ := Lib.hid hpv
                have HCWZ := Lib.hid hcw1
                have HZ := Lib.hid hz1
                clear hm1 hpv hcw1 hz1
                clear y0 y1 y2
                have t0 := HT.out.cell 0
                have t1 := HT.out.cell 1
                have t2 := HT.out.cell 2
                have t3 := HT.out.cell 3
                have tf1 := HT.out.frozen 1
                have tf3 := HT.out.frozen 3
                simp at t0 t1 t2 t3
                go_upto_region 23 with fail
                obtain ⟨v6, hwv6⟩ : ∃ w', w' = v5.setCell ⟨bt, 1, none⟩ (.int .i64 m) := ⟨_, rfl⟩
                rw [← hwv6]
                have hsc : Chg (fun k => k = bt) v5 v6 := by rw [hwv6]; exact Chg.seto (Chg.refl _ _)
                have hm1 := HM.out.set hsc hbtx HTN.out hbw
                have ht5 := HT.out.setw hwv6
                simp only [List.setIfInBounds_toArray, List.set_cons_zero, List.set_cons_succ] at ht5
                clear HM HT hsc hwv6 t0 t1 t2 t3 tf1 tf3
                have HM := Lib.hid hm1
                have HT := Lib.hid ht5
                clear hm1 ht5
                have t0 := HT.out.cell 0
                have t1 := HT.out.cell 1
                have t2 := HT.out.cell 2
                have t3 := HT.out.cell 3
                have tf1 := HT.out.frozen 1
                have tf3 := HT.out.frozen 3
                simp at t0 t1 t2 t3
                have u4 := HM.out.blk.cell 4
                simp at u4
                go_wp2_with (at_builtin; refine wpList_lst_app rtestOk _ (by rfl) _ _ (by rfl) T (.slice ta T.length tc) (⟨op, m, ad, false⟩ : TestV) (by rfl) (HM.out.tests.same ((Chg.refl _ _).alloc _)) _ (by rfl) htl (by show Blk _ _ 146 #[.int .i64 op, .int .i64 m, .int .i64 ad, .bool false]; exact Blk.new _ _ _) ?_)
                intro v' w5 hO hc5 hk5
                obtain ⟨a5, n5, p5, rfl⟩ := lst_sl rtestOk hO
                have hma := HM.out.same ((Chg.refl _ _).alloc (.cells #[.int .i64 op, .int .i64 m, .int .i64 ad, .bool false] 146))
                have hb5 := hma.blk.chg hc5 hma.ne
                have hm6 := hma.push hO hc5 (fun k hk => by have := hk5 k hk; simpa using this)
                have e : n5 = T.length + 1 := by
                  obtain ⟨a', c', e', _⟩ := hm6.tests.form rtestOk
                  injection e' with _ e' _
                  rw [e']; simp
                subst e
                have u4 := hb5.cell 4
                have uf4 := hb5.frozen 4
                simp at u4
                obtain ⟨w6, hw6⟩ : ∃ w6, w6 = w5.setCell ⟨bx, 4, none⟩ (.slice a5 (T.length + 1) p5) := ⟨_, rfl⟩
                rw [← hw6] at hm6
                clear hO hc5 hk5 hma hb5 HM
                have HM := Lib.hid hm6
                have HW6 := Lib.hid hw6
                clear hm6 hw6
                go_wp2_with fail
                rw [← HW6.out]
                have hm := HM.out
                rw [show T.length + 1 = (T ++ [(⟨op, m, ad, false⟩ : TestV)]).length by simp] at hm
                exact ⟨⟨k + 1, a5, p5, T ++ [(⟨op, m, ad, false⟩ : TestV)], by simp [hik], by omega, by simp; omega, hm⟩, by simp [intOf, hik]; omega⟩
              · have p8 : decide (F2 < (i : Int)) = false := by simp; omega
                clear e1 e2 e3
                go_wp2_with fail
                exact ⟨⟨k + 1, ta, tc, T, by simp [hik], by omega, by omega, HM.out⟩, by simp [intOf, hik]; omega⟩
          · have q7 : (F1 == (i : Int)) = false := by rw [beq_eq_false_iff_ne]; exact e1
            by_cases e2 : F2 = (i : Int)
            · have q8 : (F2 == (i : Int)) = true := beq_iff_eq.2 e2
              by_cases e3 : F1 < (i : Int)
              · have p8 : decide (F1 < (i : Int)) = true := by simp; omega
                have hps := HPOS.out F1 (by omega)
                clear e1 e2 e3
                have HPS := Lib.hid hps
                clear hps
                go_wp2_with fail
                refine (HPS.out v4 HCWZ.out).mono ?_
                rintro e v5 ⟨m, _, _, rfl, h6⟩
                have ht5 := HT.out.chg h6 (by simp)
                clear HT
                have HT := Lib.hid ht5
                clear ht5
                have hm1 := HM.out.same h6
                have hpv := HPZ.out.chg h6 (by simp)
                have hcw1 := HCWZ.out.then h6
                have hz1 := HZ.out.chg h6 (by simp)
                clear HM HPZ HCWZ HZ h6
                have HM := Lib.hid hm1
                have HPZ := Lib.hid hpv
                have HCWZ := Lib.hid hcw1
                have HZ := Lib.hid hz1
                clear hm1 hpv hcw1 hz1
                clear y0 y1 y2
                have t0 := HT.out.cell 0
                have t1 := HT.out.cell 1
                have t2 := HT.out.cell 2
                have t3 := HT.out.cell 3
                have tf1 := HT.out.frozen 1
                have tf3 := HT.out.frozen 3
                simp at t0 t1 t2 t3
                go_upto_region 27 with fail
                obtain ⟨v6, hwv6⟩ : ∃ w', w' = v5.setCell ⟨bt, 1, none⟩ (.int .i64 m) := ⟨_, rfl⟩
                rw [← hwv6]
                have hsc : Chg (fun k => k = bt) v5 v6 := by rw [hwv6]; exact Chg.seto (Chg.refl _ _)
                have hm1 := HM.out.set hsc hbtx HTN.out hbw
                have ht5 := HT.out.setw hwv6
                simp only [List.setIfInBounds_toArray, List.set_cons_zero, List.set_cons_succ] at ht5
                clear HM HT hsc hwv6 t0 t1 t2 t3 tf1 tf3
                have HM := Lib.hid hm1
                have HT := Lib.hid ht5
                clear hm1 ht5
                have t0 := HT.out.cell 0
                have t1 := HT.out.cell 1
                have t2 := HT.out.cell 2
                have t3 := HT.out.cell 3
                have tf1 := HT.out.frozen 1
                have tf3 := HT.out.frozen 3
                simp at t0 t1 t2 t3
                obtain ⟨v7, hwv7⟩ : ∃ w', w' = v6.setCell ⟨bt, 3, none⟩ (.bool true) := ⟨_, rfl⟩
                rw [← hwv7]
                have hsc : Chg (fun k => k = bt) v6 v7 := by rw [hwv7]; exact Chg.seto (Chg.refl _ _)
                have hm1 := HM.out.set hsc hbtx HTN.out hbw
                have ht5 := HT.out.setw hwv7
                simp only [List.setIfInBounds_toArray, List.set_cons_zero, List.set_cons_succ] at ht5
                clear HM HT hsc hwv7 t0 t1 t2 t3 tf1 tf3
                have HM := Lib.hid hm1
                have HT := Lib.hid ht5
                clear hm1 ht5
                have t0 := HT.out.cell 0
                have t1 := HT.out.cell 1
                have t2 := HT.out.cell 2
                have t3 := HT.out.cell 3
                have tf1 := HT.out.frozen 1
                have tf3 := HT.out.frozen 3
                simp at t0 t1 t2 t3
                have u4 := HM.out.blk.cell 4
                simp at u4
                go_wp2_with (at_builtin; refine wpList_lst_app rtestOk _ (by rfl) _ _ (by rfl) T (.slice ta T.length tc) (⟨op, m, ad, true⟩ : TestV) (by rfl) (HM.out.tests.same ((Chg.refl _ _).alloc _)) _ (by rfl) htl (by show Blk _ _ 146 #[.int .i64 op, .int .i64 m, .int .i64 ad, .bool true]; exact Blk.new _ _ _) ?_)
                intro v' w5 hO hc5 hk5
                obtain ⟨a5, n5, p5, rfl⟩ := lst_sl rtestOk hO
                have hma := HM.out.same ((Chg.refl _ _).alloc (.cells #[.int .i64 op, .int .i64 m, .int .i64 ad, .bool true] 146))
                have hb5 := hma.blk.chg hc5 hma.ne
                have hm6 := hma.push hO hc5 (fun k hk => by have := hk5 k hk; simpa using this)
                have e : n5 = T.length + 1 := by
                  obtain ⟨a', c', e', _⟩ := hm6.tests.form rtestOk
                  injection e' with _ e' _
                  rw [e']; simp
                subst e
                have u4 := hb5.cell 4
                have uf4 := hb5.frozen 4
                simp at u4
                obtain ⟨w6, hw6⟩ : ∃ w6, w6 = w5.setCell ⟨bx, 4, none⟩ (.slice a5 (T.length + 1) p5) := ⟨_, rfl⟩
                rw [← hw6] at hm6
                clear hO hc5 hk5 hma hb5 HM
                have HM := Lib.hid hm6
                have HW6 := Lib.hid hw6
                clear hm6 hw6
                go_wp2_with fail
                rw [← HW6.out]
                have hm := HM.out
                rw [show T.length + 1 = (T ++ [(⟨op, m, ad, true⟩ : TestV)]).length by simp] at hm
                exact ⟨⟨k + 1, a5, p5, T ++ [(⟨op, m, ad, true⟩ : TestV)], by simp [hik], by omega, by simp; omega, hm⟩, by simp [intOf, hik]; omega⟩
              · have p8 : decide (F1 < (i : Int)) = false := by simp; omega
                clear e1 e2 e3
                go_wp2_with fail
                exact ⟨⟨k + 1, ta, tc, T, by simp [hik], by omega, by omega, HM.out⟩, by simp [intOf, hik]; omega⟩
            · have q8 : (F2 == (i : Int)) = false := by rw [beq_eq_false_iff_ne]; exact e2
              clear e1 e2
              go_wp2_with fail
              exact ⟨⟨k + 1, ta, tc, T, by simp [hik], by omega, by omega, HM.out⟩, by simp [intOf, hik]; omega⟩
        · have hke : k = C.length := by omega
          subst hke
          have qlk : decide ((C.length : Int) < (C.length : Int)) = false := by simp
          have hii := IntWalk.i64_in ((i : Int) + 1) (by omega)
          have hol : O.length ≤ 1000000000 := by omega
          have x0 := hm.blk.cell 0
          have x1 := hm.blk.cell 1
          have x2 := hm.blk.cell 2
          have x3 := hm.blk.cell 3
          have x4 := hm.blk.cell 4
          have hqz := HQI.out.chg hm.chg (by simp)
          have hgz := HGI.out.chg hm.chg (by simp)
          have hOz := HOI.out.same hm.chg
          have z0 := hqz.cell 0
          simp at x0 x1 x2 x3 x4 z0
          have hne : ¬ (fun k => (Value.slice sa O.length sc).ownBlock = some k) q := fun e => by
            obtain ⟨cs, hB⟩ := hOz.typed e
            exact hB.ne_ hqz (by decide) rfl
          have hneg : ¬ (fun k => (Value.slice sa O.length sc).ownBlock = some k) g := fun e => by
            obtain ⟨cs, hB⟩ := hOz.typed e
            exact hB.ne_ hgz (by decide) rfl
          have hnep : ¬ (fun k => (Value.slice sa O.length sc).ownBlock = some k) bp := fun e => by
            obtain ⟨cs, hB⟩ := hOz.typed e
            exact hB.ne_ hpz (by decide) rfl
          have HM := Lib.hid hm
          have HQZ := Lib.hid hqz
          have HGZ := Lib.hid hgz
          have HOZ := Lib.hid hOz
          have HNE := Lib.hid hne
          have HNEG := Lib.hid hneg
          have HNEP := Lib.hid hnep
          have HCWZ := Lib.hid hcwz
          have HPZ := Lib.hid hpz
          clear hm hqz hgz hOz hne hneg hnep hcwz hpz
          clear y0 y1 y2
          have y1 := HPZ.out.cell 1
          simp at y1
          go_wp2_with (at_builtin; refine wpList_lst_app rposOk _ (by rfl) _ _ (by rfl) O (.slice sa O.length sc) (⟨kd, no, mn, mx, ta, T.length, tc⟩ : PosV) (by rfl) (HOZ.out.same ((Chg.refl _ _).alloc _)) _ (by rfl) hol (by show Blk _ _ 143 #[bV kd, .bool no, .int .i64 mn, .int .i64 mx, .slice ta T.length tc]; exact Blk.new _ _ _) ?_)
          intro v' w5 hO5 hc5 hk5
          obtain ⟨a5, n5, p5, rfl⟩ := lst_sl rposOk hO5
          have e : n5 = O.length + 1 := by
            obtain ⟨a', c', e', _⟩ := hO5.form rposOk
            injection e' with _ e' _
            rw [e']; simp
          subst e
          have hal := Chg.alloc (Chg.refl (fun _ => False) wr) (.cells #[bV kd, .bool no, .int .i64 mn, .int .i64 mx, .slice ta T.length tc] 143)
          have hq5 := (HQZ.out.chg hal (by simp)).chg hc5 HNE.out
          have hg5 := (HGZ.out.chg hal (by simp)).chg hc5 HNEG.out
          have hp5 := (HPZ.out.chg hal (by simp)).chg hc5 HNEP.out
          obtain ⟨w6, hw6⟩ : ∃ w6, w6 = w5.setCell ⟨q, 0, none⟩ (.slice a5 (O.length + 1) p5) := ⟨_, rfl⟩
          have hset : Chg (fun k => k = q) w5 w6 := by rw [hw6]; exact Chg.seto (Chg.refl _ _)
          have hq6 : Blk w6 q 46 #[.slice a5 (O.length + 1) p5, .int .i64 n] := by
            rw [hw6]
            have hz := hq5.set_ 0 (.slice a5 (O.length + 1) p5)
            simpa using hz
          have hg6 := hg5.chg hset hgq
          have hp6 := hp5.chg hset (show ¬ bp = q by have := HQ.out; have := HG.out; omega)
          have hO6 := hO5.chg hset fun b hb e => by
            obtain ⟨cs, hB⟩ := hO5.typed hb
            exact hB.ne_ hq5 (by decide) e
          have hcw5 := (HCWZ.out.then hal).trans hc5 fun b hb e => by have := HOWN.out b e; omega
          have hcw6 := hcw5.trans hset fun b hb e => by have : b = q := e; omega
          have hown6 : ∀ b, (Value.slice a5 (O.length + 1) p5).ownBlock = some b → w.heap.size ≤ b := fun b hb => by
            rcases hk5 b hb with e | e
            · exact HOWN.out b e
            · have h1 := HCWZ.out.size
              have : (wr.alloc (.cells #[bV kd, .bool no, .int .i64 mn, .int .i64 mx, .slice ta T.length tc] 143)).heap.size = wr.heap.size + 1 := by simp
              omega
          have z5 := hq5.cell 0
          have zf5 := hq5.frozen 0
          simp at z5
          have HW6 := Lib.hid hw6
          have HQ6 := Lib.hid hq6
          have HG6 := Lib.hid hg6
          have HP6 := Lib.hid hp6
          have HO6 := Lib.hid hO6
          have HCW6 := Lib.hid hcw6
          have HOWN6 := Lib.hid hown6
          clear hw6 hq6 hg6 hp6 hO6 hcw6 hown6
          clear hO5 hc5 hk5 hq5 hg5 hp5 hset hcw5 hal x0 x1 x2 x3 x4 z0 y1
          go_wp2_with fail
          rw [← HW6.out]
          have hO7 := HO6.out
          have hq7 := HQ6.out
          have hn7 := HOWN6.out
          rw [show O.length + 1 = (O ++ [(⟨kd, no, mn, mx, ta, T.length, tc⟩ : PosV)]).length by simp] at hO7 hq7 hn7
          exact ⟨⟨i + 1, a5, p5, O ++ [(⟨kd, no, mn, mx, ta, T.length, tc⟩ : PosV)], by simp [hii], by omega, by simp; omega, HP6.out, HG6.out, hq7, hO7, hn7, HCW6.out⟩, by simp [intOf, hii]; omega⟩
    · have hke : i = L.length := by omega
      subst hke
      have qlt : decide ((L.length : Int) < (L.length : Int)) = false := by simp
      have z0 := hqr.cell 0
      have z1 := hqr.cell 1
      have g0 := hgr.cell 0
      have g1 := hgr.cell 1
      have gf0 := hgr.frozen 0
      have gf1 := hgr.frozen 1
      simp at z0 z1 g0 g1
      have HGR := Lib.hid hgr
      have HCR := Lib.hid hcr
      have HO := Lib.hid hO
      have HOWN := Lib.hid hown
      have HPR := Lib.hid hpr
      have HQR := Lib.hid hqr
      clear hgr hcr hO hown hpr hqr
      go_wp2_with fail
      obtain ⟨wz, hwz⟩ : ∃ wz : World, wz = (wr.setCell ⟨g, 0, none⟩ (.slice sa O.length sc)).setCell ⟨g, 1, none⟩ (.int .i64 n) := ⟨_, rfl⟩
      have hb9 : Blk wz g 46 #[.slice sa O.length sc, .int .i64 n] := by
        rw [hwz]
        have hz := (HGR.out.set_ 0 (.slice sa O.length sc)).set_ 1 (.int .i64 n)
        simpa using hz
      have hcz : Chg (fun k => k = g) wr wz := by rw [hwz]; exact Chg.seto (Chg.seto (Chg.refl _ _))
      have hcw := HCR.out.trans hcz fun k hk e => by have : k = g := e; have := HG.out; have := HBP.out; omega
      rw [← hwz]
      have zx0 := hb9.cell 0
      have zx1 := hb9.cell 1
      simp at zx0 zx1
      exact bodyPost_ret (v := .agg #[.slice sa O.length sc, .int .i64 n]) (by simp [results, Tryz.results25, go_sem, zx0, zx1]) rfl ⟨⟨_, _, _, rfl⟩, hcw⟩
end Go.Proofs.YtjloddlkleileaaGreatDoor
