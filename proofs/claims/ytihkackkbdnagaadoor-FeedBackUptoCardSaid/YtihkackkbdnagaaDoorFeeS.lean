/-
  The law FeedParses returns true.
-/
import Derived.Test.YtihkackkbdnagaaDoorFeeR
namespace Go.Proofs.YtihkackkbdnagaaDoor
open Go.RowKit Go.Shelf
set_option linter.unusedVariables false
set_option linter.unusedSimpArgs false

set_option maxRecDepth 100000 in
set_option maxHeartbeats 4000000 in
theorem feed_parses (s : ByteArray) (v : Value) (l : List ItemV) (w : World) (hs : s.size ≤ 1000000000) (hR : ReadItems w v l) (hfit : ∀ x ∈ l, Fit x) (hlen : l.length ≤ 1000000000) (ht : Tab w) (he : ErrOk w) (hm : MaxOk w) :
    Calls Tryd.prog 3 #[.string s, v] w fun e w' => e = .returned (.bool true) ∧ Chg (fun _ => False) w w' := by
  have hbo := lf_both v l w hR hlen
  have hpa := fun W (hW : Chg (fun _ => False) w W) => fd_parse s hs W (ht.chg hW) (he.chg hW) (hm.chg hW)
  have hpb := fun W => r3_parse s hs W
  have hwk := fun W (hW : Chg (fun _ => False) w W) => lf_wakes W (ht.chg hW) (he.chg hW) (hm.chg hW)
  have HBO := Lib.hid hbo
  have HPA := Lib.hid hpa
  have HPB := Lib.hid hpb
  have HWK := Lib.hid hwk
  have HT := Lib.hid ht
  have HFIT := Lib.hid hfit
  clear hbo hpa hpb hwk ht he hm hfit hR
  go_enter Tryd.func3, Tryd.ntmps3
  go_wp2_with fail
  refine HBO.out.mono ?_
  rintro e w1 ⟨va, vb, rfl, hT1⟩
  have HT1 := Lib.hid hT1
  clear hT1 HBO
  go_wp2_with fail
  refine (HPA.out w1 HT1.out.chg).mono ?_
  rintro e w2 ⟨hA, hc2⟩
  have HC2 := Lib.hid (HT1.out.chg.then hc2)
  have HT2 := Lib.hid (HT1.out.same hc2)
  clear hc2 HPA HT1
  have hwk3 := fun W (hW : Chg (fun _ => False) w2 W) => HWK.out W (HC2.out.then hW)
  have hsa := fun W (hW : Chg (fun _ => False) w2 W) => fd_show va l W (HT2.out.same hW).a HFIT.out hlen (HT.out.chg (HC2.out.then hW))
  have hsb := fun W (hW : Chg (fun _ => False) w2 W) => r3_show vb l W (HT2.out.same hW).b HFIT.out hlen
  have HSA := Lib.hid hsa
  have HSB := Lib.hid hsb
  have HWK3 := Lib.hid hwk3
  clear hwk3 hsa hsb HWK HT HFIT
  obtain ⟨tx, htx⟩ : ∃ tx : ByteArray, (⟨(showV l).toArray⟩ : ByteArray) = tx := ⟨_, rfl⟩
  rw [htx] at HSA HSB
  have htest := ba_test tx tx
  rw [decide_eq_true rfl] at htest
  clear htx
  rcases hA with ⟨pa, P, hP, rfl, hLa⟩ | ⟨k, hk, rfl⟩
  · have HLA := Lib.hid hLa
    clear hLa
    go_wp2_with fail
    refine (HPB.out w2).mono ?_
    rintro e w3 ⟨⟨pb, P', hP', rfl, hLb⟩ | ⟨k, hk, rfl⟩, hc3⟩
    · rw [hP] at hP'
      injection hP' with hP'
      subst hP'
      have HLB := Lib.hid hLb
      have HC3 := Lib.hid hc3
      obtain ⟨aa, ca, rfl, _, _, _⟩ := item_read HLA.out
      obtain ⟨ab, cb, rfl, _, _, _⟩ := doc2_read HLB.out
      clear hLb hc3 hP HPB
      go_wp2_with fail
      refine (HWK3.out w3 HC3.out).mono ?_
      rintro e w4 ⟨rfl, hc4⟩
      have HC4 := Lib.hid (HC3.out.then hc4)
      have HC34 := Lib.hid hc4
      clear hc4
      go_wp2_with fail
      refine (HSA.out w4 HC4.out).mono ?_
      rintro e w5 ⟨rfl, hc5⟩
      have HC5 := Lib.hid (HC4.out.then hc5)
      have HC35 := Lib.hid (HC34.out.then hc5)
      clear hc5
      go_wp2_with fail
      refine (HSB.out w5 HC5.out).mono ?_
      rintro e w6 ⟨rfl, hc6⟩
      have hc26 := HC5.out.then hc6
      have HC6 := Lib.hid (HC2.out.then hc26)
      have hra := item_read (HLA.out.same hc26)
      have hrb := doc2_read (HLB.out.same (HC35.out.then hc6))
      obtain ⟨_, _, e1, _, _, hra⟩ := hra
      cases e1
      obtain ⟨_, _, e1, _, _, hrb⟩ := hrb
      cases e1
      have HRA := Lib.hid hra
      have HRB := Lib.hid hrb
      have hPl : P.length ≤ 9223372036854775807 := by assumption
      clear hc6 hc26 hra hrb HLA HLB HSA HSB HWK3 HC5 HC4 HC3 HC34 HC35 HT2 HC2
      go_wp2_with fail
      go_loopw [59] (fun i wr => ∃ A R, P = A ++ R ∧ i = .int .i64 (A.length : Int) ∧ ∃ n, w6.drewN n = wr) (fun i _ => P.length - (intOf i).toNat)
      case atStart => exact ⟨[], P, rfl, rfl, 0, rfl⟩
      case round =>
        obtain ⟨A, R, hl, rfl, n, rfl⟩ := hrel
        have hAl : A.length ≤ P.length := by rw [hl]; simp
        cases R with
        | nil =>
          have hge : ¬ ((A.length : Int) < (P.length : Int)) := by rw [hl]; simp
          clear hl
          go_wp2_with fail
          go_ret
          exact ⟨rfl, HC6.out.drewN n⟩
        | cons x R =>
          have hlt : (A.length : Int) < (P.length : Int) := by rw [hl]; simp; omega
          obtain ⟨b, rfl, _, _, y0, y1, y2, y3⟩ := HRA.out A x R hl
          obtain ⟨b2, rfl, _, _, z0, z1, z2, z3⟩ := HRB.out A x R hl
          have hl2 : P = (A ++ [x]) ++ R := by rw [hl]; simp
          have HL2 := Lib.hid hl2
          have hge : (0 : Int) ≤ (A.length : Int) := by omega
          clear hl hl2
          have y0 : (w6.drewN n).cell? ⟨b, A.length * 4, none⟩ = some (.bool x.mark) := y0
          have y1 : (w6.drewN n).cell? ⟨b, A.length * 4 + 1, none⟩ = some (.int .i64 x.time) := y1
          have y2 : (w6.drewN n).cell? ⟨b, A.length * 4 + 2, none⟩ = some (.int .u8 (x.kind.toNat : Int)) := y2
          have y3 : (w6.drewN n).cell? ⟨b, A.length * 4 + 3, none⟩ = some (.int .i64 x.val) := y3
          have z0 : (w6.drewN n).cell? ⟨b2, A.length * 4, none⟩ = some (.bool x.mark) := z0
          have z1 : (w6.drewN n).cell? ⟨b2, A.length * 4 + 1, none⟩ = some (.int .i64 x.time) := z1
          have z2 : (w6.drewN n).cell? ⟨b2, A.length * 4 + 2, none⟩ = some (.int .u8 (x.kind.toNat : Int)) := z2
          have z3 : (w6.drewN n).cell? ⟨b2, A.length * 4 + 3, none⟩ = some (.int .i64 x.val) := z3
          have HC6 := HC6
          go_wp2_with fail
          go_quiet (fail)
          go_wp2_with fail
          exact ⟨⟨A ++ [x], R, HL2.out, by simp, n + nq, rfl⟩, by simp [intOf]; omega⟩
    · rw [hP] at hk
      cases hk
  · go_wp2_with fail
    refine (HPB.out w2).mono ?_
    rintro e w3 ⟨⟨pb, P', hP', rfl, hLb⟩ | ⟨k', hk', rfl⟩, hc3⟩
    · rw [hk] at hP'
      cases hP'
    · rw [hk] at hk'
      injection hk' with hk'
      subst hk'
      have HC3 := Lib.hid hc3
      clear hc3 hk HPB
      go_wp2_with fail
      refine (HWK3.out w3 HC3.out).mono ?_
      rintro e w4 ⟨rfl, hc4⟩
      have HC4 := Lib.hid (HC3.out.then hc4)
      clear hc4
      go_wp2_with fail
      refine (HSA.out w4 HC4.out).mono ?_
      rintro e w5 ⟨rfl, hc5⟩
      have HC5 := Lib.hid (HC4.out.then hc5)
      clear hc5
      go_wp2_with fail
      refine (HSB.out w5 HC5.out).mono ?_
      rintro e w6 ⟨rfl, hc6⟩
      have HC6 := Lib.hid (HC2.out.then (HC5.out.then hc6))
      clear hc6
      go_wp2_with fail
      go_loopw [59] (fun i wr => i = .int .i64 0 ∧ w6 = wr) (fun i _ => 0)
      case atStart => exact ⟨rfl, rfl⟩
      case round =>
        obtain ⟨rfl, rfl⟩ := hrel
        go_wp2_with fail
        go_ret
        exact ⟨rfl, HC6.out⟩
end Go.Proofs.YtihkackkbdnagaaDoor
