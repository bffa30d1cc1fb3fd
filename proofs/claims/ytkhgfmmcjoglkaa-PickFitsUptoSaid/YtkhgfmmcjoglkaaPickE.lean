/-
  The law's wakes, layer 15: a job that the document fixes.
-/
import Derived.Test.YtkhgfmmcjoglkaaPickD
namespace Go.Proofs.Ytkhgfmmcjoglkaa
open Go.RowKit
set_option linter.unusedVariables false
set_option linter.unusedSimpArgs false

def pm1 : MetaV := ⟨1, 1, ⟨#[97]⟩, ⟨#[99]⟩⟩
def pm2 : MetaV := ⟨2, 1, ⟨#[98]⟩, ⟨#[102]⟩⟩
def pm3 : MetaV := ⟨3, 1, ⟨#[101]⟩, ⟨#[107]⟩⟩
def pwE : EditV := ⟨[⟨0, pm1⟩, ⟨0, pm2⟩, ⟨1, pm3⟩], [], 0, 4, 0⟩
def pwS : VerV := nextV VerV.none pwE
theorem psl (x y : UInt8) : sl ⟨#[x]⟩ ⟨#[y]⟩ = decide (x < y) := by
  simp [sl, ByteArray.toList_eq, Op.bytesLess]
theorem pw_lv0 : pwS.lv 0 = [pm2, pm1] := by
  simp [pwS, nextV, pwE, addTo, kept, VerV.none, insG, before, pm1, pm2, pm3]
theorem pw_lv1 : pwS.lv 1 = [pm3] := by
  simp [pwS, nextV, pwE, addTo, kept, VerV.none, insG, before, pm1, pm2, pm3]
theorem pw_lv {i : Nat} (h0 : i ≠ 0) (h1 : i ≠ 1) : pwS.lv i = [] := by
  have a : ¬ (0 : Int) = (i : Int) := by omega
  have b : ¬ (1 : Int) = (i : Int) := by omega
  simp [pwS, nextV, pwE, addTo, kept, VerV.none, a, b]
theorem pw_ok : okV VerV.none pwE := by
  refine ⟨⟨by simp [VerV.none, pwE], by simp [pwE]⟩, ⟨by simp [pwE], by simp [pwE]⟩, ⟨fun p hp => ?_, by simp [pwE, pm1, pm2, pm3]⟩, fun i h1 h4 => ?_⟩
  · rw [wk_flat]
    simp [pwE] at hp
    rcases hp with rfl | rfl | rfl
    · exact ⟨⟨by simp, by simp, by simp [pm1], by simp [pm1, pwE], by simp [pm1], by simp only [pm1]; rw [psl]; decide⟩, by simp⟩
    · exact ⟨⟨by simp, by simp, by simp [pm2], by simp [pm2, pwE], by simp [pm2], by simp only [pm2]; rw [psl]; decide⟩, by simp⟩
    · exact ⟨⟨by simp, by simp, by simp [pm3], by simp [pm3, pwE], by simp [pm3], by simp only [pm3]; rw [psl]; decide⟩, by simp⟩
  · by_cases hi : i = 1
    · subst hi
      show (pwS.lv 1).Pairwise Apart
      rw [pw_lv1]
      simp
    · show (pwS.lv i).Pairwise Apart
      rw [pw_lv (by omega) hi]
      exact List.Pairwise.nil
theorem pw_fine : Fine pwS := Fine.none.next pw_ok (by simp [pwE, I64])
theorem pw_flat : (flat pwS).length ≤ 41943040 := by
  have := next_len pw_ok
  have h2 : (flat VerV.none).length = 0 := by simp [flat, VerV.none, atLevel]
  have h3 : pwE.add.length = 3 := rfl
  show (flat (nextV VerV.none pwE)).length ≤ _
  omega
theorem pw_lo : loF pm2.lo [pm2, pm1] = ⟨#[97]⟩ := by
  simp [loF, smin, pm1, pm2, psl]
theorem pw_hi : hiF pm2.hi [pm2, pm1] = ⟨#[102]⟩ := by
  simp [hiF, smax, pm1, pm2, psl]
theorem pw_over : oversV pwS 1 ⟨#[97]⟩ ⟨#[102]⟩ = [pm3] := by
  unfold oversV
  rw [if_pos (by omega)]
  show (pwS.lv 1).filter _ = _
  rw [pw_lv1]
  simp [overB, pm3, psl]
theorem pw_none {j : Nat} (h : 2 ≤ j) (h4 : j < 4) (a b : ByteArray) : oversV pwS (j : Int) a b = [] := by
  unfold oversV
  rw [if_pos (by omega)]
  show (pwS.lv j).filter _ = _
  rw [pw_lv (by omega) (by omega)]
  rfl
set_option maxRecDepth 100000 in
theorem pick_m (lv f : Int) (a b : ByteArray) (w : World) : Calls Try.prog 18 #[.int .i64 lv, .int .i64 f, .string a, .string b] w fun e w' => e = .returned (.agg #[.int .i64 lv, .int .i64 f, .int .i64 1, .string a, .string b]) ∧ Chg (fun _ => False) w w' := by
  go_enter Try.func18, Try.ntmps18
  go_wp2
  exact bodyPost_ret (v := .agg #[.int .i64 lv, .int .i64 f, .int .i64 1, .string a, .string b]) (by simp [results, Try.results18, go_sem]) rfl ⟨rfl, by ((repeat (first | exact Chg.refl _ _ | assumption | refine Chg.drewN ?_ _ | refine Chg.drew ?_ | refine Chg.alloc ?_ _ | refine Chg.setCell ?_ (by first | (simp; done) | (simp; omega) | (intro h; simp at h; omega)) _)))⟩
set_option maxRecDepth 100000 in
set_option maxHeartbeats 2000000 in
theorem pick_room12 (w : World) : Calls Try.prog 19 #[.agg #[.int .i64 0, .int .i64 3, .int .i64 4], .int .i64 2] w fun e w' => e = .returned (.int .i64 12) ∧ Chg (fun _ => False) w w' := by
  obtain ⟨w1, hw1⟩ : ∃ w1, w1 = w.alloc (.cells #[.int .i64 0, .int .i64 3, .int .i64 4] 40) := ⟨_, rfl⟩
  have hc1 : Chg (fun _ => False) w w1 := by rw [hw1]; ((repeat (first | exact Chg.refl _ _ | assumption | refine Chg.drewN ?_ _ | refine Chg.drew ?_ | refine Chg.alloc ?_ _ | refine Chg.setCell ?_ (by first | (simp; done) | (simp; omega) | (intro h; simp at h; omega)) _)))
  have hb1' : Blk w1 w.heap.size 40 #[.int .i64 0, .int .i64 3, .int .i64 4] := by rw [hw1]; exact Blk.new w _ _
  have k1 := hb1'.cell 1
  have k2 := hb1'.cell 2
  simp at k1 k2
  have HW1 := Lib.hid hw1
  have HC1 := Lib.hid hc1
  clear hw1 hc1 hb1'
  go_enter Try.func19, Try.ntmps19
  go_upto_region 3 with fail
  rw [← HW1.out]
  go_cut [5, 6] (fun x t wx => x = .int .i64 3 ∧ t = .int .i64 4 ∧ Chg (fun _ => False) w wx)
  case first =>
    go_quiet (fail)
    go_wp2_with fail
    all_goals go_meet
    all_goals exact ⟨rfl, rfl, by have := HC1.out; ((repeat (first | exact Chg.refl _ _ | assumption | refine Chg.drewN ?_ _ | refine Chg.drew ?_ | refine Chg.alloc ?_ _ | refine Chg.setCell ?_ (by first | (simp; done) | (simp; omega) | (intro h; simp at h; omega)) _)))⟩
  case rest =>
    obtain ⟨rfl, rfl, hcx⟩ := hcut
    have HCX := Lib.hid hcx
    clear hcx k1 k2
    go_wp2_with fail
    go_loopw [5, 22] (fun x i wr => ((x = .int .i64 3 ∧ i = .int .i64 0) ∨ (x = .int .i64 12 ∧ i = .int .i64 1)) ∧ Chg (fun _ => False) w wr) (fun _ i _ => 1 - (intOf i).toNat)
    case atStart => exact ⟨.inl ⟨rfl, rfl⟩, HCX.out⟩
    case round =>
      obtain ⟨⟨rfl, rfl⟩ | ⟨rfl, rfl⟩, hc⟩ := hrel
      · have HC := Lib.hid hc
        clear hc
        go_wp2_with fail
        go_roundw
        case rel => exact ⟨.inr ⟨rfl, rfl⟩, HC.out⟩
        case measure => simp [intOf]
      · have HC := Lib.hid hc
        clear hc
        go_wp2_with fail
        go_ret
        exact ⟨rfl, HC.out⟩

theorem pw_apply (w : World) (g : Nat) (hb : Blk w g 46 #[.int .i64 0, .int .i64 1, .int .i64 1, .string ⟨#[97]⟩, .string ⟨#[99]⟩, .int .i64 0, .int .i64 2, .int .i64 1, .string ⟨#[98]⟩, .string ⟨#[102]⟩, .int .i64 1, .int .i64 3, .int .i64 1, .string ⟨#[101]⟩, .string ⟨#[107]⟩]) :
    Calls Try.prog 7 #[.agg #[.slice none 0 0, .slice none 0 0, .slice none 0 0, .slice none 0 0, .int .i64 0, .int .i64 0, .int .i64 0], .agg #[.slice (some ⟨g, 0, none⟩) 3 3, .slice none 0 0, .int .i64 0, .int .i64 4, .int .i64 0]] w
      fun e w' => ∃ a0 a1 a2 a3 n0 n1 n2 n3 c0 c1 c2 c3, e = .returned (.tuple #[.agg #[.slice a0 n0 c0, .slice a1 n1 c1, .slice a2 n2 c2, .slice a3 n3 c3, .int .i64 0, .int .i64 4, .int .i64 0], .int .i64 0]) ∧
        VerAt w' (Lv (.slice a0 n0 c0) (.slice a1 n1 c1) (.slice a2 n2 c2) (.slice a3 n3 c3)) pwS.lv ∧ Chg (fun _ => False) w w' := by
  refine (ver_apply VerV.none pwE (fun _ => .slice none 0 0) (.slice (some ⟨g, 0, none⟩) 3 3) (.slice none 0 0) w Good.none ⟨by simp [pwE], by simp [pwE, pm1, pm2, pm3, I64]⟩ (by simp [I64, VerV.none]) (own_nil4 w) (Lst.of_block placeOk hb rfl (by simp [pwE])) (Lst.nil _ _) (by simp [VerV.none]) (by simp [pwE]) (by simp [pwE])).mono ?_
  rintro e w' ⟨hc, ⟨_, L, rfl, hv, _⟩ | ⟨hno, _⟩⟩
  · obtain ⟨a0, c0, e0, _⟩ := meta_form (hv 0 (by omega))
    obtain ⟨a1, c1, e1, _⟩ := meta_form (hv 1 (by omega))
    obtain ⟨a2, c2, e2, _⟩ := meta_form (hv 2 (by omega))
    obtain ⟨a3, c3, e3, _⟩ := meta_form (hv 3 (by omega))
    have hv' := Lv_all L hv
    rw [e0, e1, e2, e3] at hv'
    exact ⟨_, _, _, _, _, _, _, _, _, _, _, _, by rw [e0, e1, e2, e3]; rfl, hv', hc⟩
  · exact absurd pw_ok hno
/-- What Pick answers there. -/
theorem pw_pick (l0 l1 l2 l3 : Value) (w : World) (h : VerAt w (Lv l0 l1 l2 l3) pwS.lv) :
    Calls Try.prog 5 #[.agg #[l0, l1, l2, l3, .int .i64 0, .int .i64 4, .int .i64 0], .agg #[.int .i64 2, .int .i64 0, .int .i64 0], .agg #[.string ⟨#[]⟩, .string ⟨#[]⟩, .string ⟨#[]⟩, .string ⟨#[]⟩]] w
      fun e w' => ∃ fa fc b tc, e = .returned (.tuple #[.agg #[.int .i64 0, .slice fa 2 fc, .slice (some ⟨b, 0, none⟩) 1 tc, .bool true], .bool true]) ∧ w'.cell? ⟨b, 0, none⟩ = some (.int .i64 3) ∧ Chg (fun _ => False) w w' := by
  refine (pick_pick 2 0 0 (by simp [I64]) (by simp [I64]) (by simp [I64]) ⟨#[]⟩ ⟨#[]⟩ ⟨#[]⟩ ⟨#[]⟩ l0 l1 l2 l3 pwS w h pw_flat).mono ?_
  rintro e w' ⟨hc, ⟨_, hno⟩ | ⟨k, x, fr, fv, tv, bt, hk, _, rfl, hF, hT, hmx, hbt⟩⟩
  · rw [pw_lv0] at hno
    exact absurd (show max (1 : Int) 2 ≤ 2 by decide) hno
  · obtain ⟨rfl, hx⟩ := hmx (by rw [pw_lv0]; exact (show max (1 : Int) 2 ≤ 2 by decide))
    rw [pw_lv0] at hx
    injection hx with hx1 hx2
    subst hx1
    subst hx2
    rw [pw_lo, pw_hi] at hT hbt
    have h1 : oversV pwS (((0 : Nat) : Int) + 1) ⟨#[97]⟩ ⟨#[102]⟩ = [pm3] := pw_over
    rw [h1] at hT hbt
    obtain ⟨fa, fc, rfl, _⟩ := i64_form hF
    obtain ⟨ta, tc, rfl, _, _, hr⟩ := i64_form hT
    obtain ⟨b, rfl, _, _, z⟩ := hr [] 3 [] rfl
    have hb : bt = true := hbt.2 fun j h2 h4 => pw_none (by omega) h4 _ _
    subst hb
    exact ⟨fa, fc, b, tc, rfl, by simpa using z, hc⟩

set_option maxRecDepth 1000000 in
set_option maxHeartbeats 4000000 in
theorem lp_wakes (w : World) : Calls Try.prog 6 #[] w fun e w' => e = .returned (.bool true) ∧ Chg (fun _ => False) w w' := by
  go_enter Try.func6, Try.ntmps6
  go_wp2_with fail
  refine (pick_m 0 1 ⟨#[97]⟩ ⟨#[99]⟩ w).mono ?_
  rintro e w1 ⟨rfl, hc1⟩
  have HC1 := Lib.hid hc1
  clear hc1
  go_wp2_with fail
  refine (pick_m 0 2 ⟨#[98]⟩ ⟨#[102]⟩ w1).mono ?_
  rintro e w2 ⟨rfl, hc2⟩
  have HC2 := Lib.hid hc2
  clear hc2
  go_wp2_with fail
  refine (pick_m 1 3 ⟨#[101]⟩ ⟨#[107]⟩ w2).mono ?_
  rintro e w3 ⟨rfl, hc3⟩
  have HC3 := Lib.hid (HC1.out.then (HC2.out.then hc3))
  obtain ⟨w4, hw4⟩ : ∃ w4, w4 = w3.alloc (.cells #[.int .i64 0, .int .i64 1, .int .i64 1, .string ⟨#[97]⟩, .string ⟨#[99]⟩, .int .i64 0, .int .i64 2, .int .i64 1, .string ⟨#[98]⟩, .string ⟨#[102]⟩, .int .i64 1, .int .i64 3, .int .i64 1, .string ⟨#[101]⟩, .string ⟨#[107]⟩] 46) := ⟨_, rfl⟩
  have hc4 : Chg (fun _ => False) w3 w4 := by rw [hw4]; ((repeat (first | exact Chg.refl _ _ | assumption | refine Chg.drewN ?_ _ | refine Chg.drew ?_ | refine Chg.alloc ?_ _ | refine Chg.setCell ?_ (by first | (simp; done) | (simp; omega) | (intro h; simp at h; omega)) _)))
  have hb : Blk w4 w3.heap.size 46 #[.int .i64 0, .int .i64 1, .int .i64 1, .string ⟨#[97]⟩, .string ⟨#[99]⟩, .int .i64 0, .int .i64 2, .int .i64 1, .string ⟨#[98]⟩, .string ⟨#[102]⟩, .int .i64 1, .int .i64 3, .int .i64 1, .string ⟨#[101]⟩, .string ⟨#[107]⟩] := by rw [hw4]; exact Blk.new _ _ _
  have hap := pw_apply w4 _ hb
  have HAP := Lib.hid hap
  have HW4 := Lib.hid hw4
  have HC4 := Lib.hid (HC3.out.then hc4)
  clear hc3 hc4 hw4 hb hap
  go_wp2_with fail
  rw [← HW4.out]
  refine HAP.out.mono ?_
  rintro e w5 ⟨a0, a1, a2, a3, n0, n1, n2, n3, c0, c1, c2, c3, rfl, hV, hc5⟩
  obtain ⟨w6, hw6⟩ : ∃ w6, w6 = w5.alloc (.cells #[.slice a0 n0 c0, .slice a1 n1 c1, .slice a2 n2 c2, .slice a3 n3 c3, .int .i64 0, .int .i64 4, .int .i64 0] 29) := ⟨_, rfl⟩
  have hc6 : Chg (fun _ => False) w5 w6 := by rw [hw6]; ((repeat (first | exact Chg.refl _ _ | assumption | refine Chg.drewN ?_ _ | refine Chg.drew ?_ | refine Chg.alloc ?_ _ | refine Chg.setCell ?_ (by first | (simp; done) | (simp; omega) | (intro h; simp at h; omega)) _)))
  have hb6 : Blk w6 w5.heap.size 29 #[.slice a0 n0 c0, .slice a1 n1 c1, .slice a2 n2 c2, .slice a3 n3 c3, .int .i64 0, .int .i64 4, .int .i64 0] := by rw [hw6]; exact Blk.new _ _ _
  have v0 := hb6.cell 0
  have v1 := hb6.cell 1
  have v2 := hb6.cell 2
  have v3 := hb6.cell 3
  have v4 := hb6.cell 4
  have v5 := hb6.cell 5
  have v6 := hb6.cell 6
  simp at v0 v1 v2 v3 v4 v5 v6
  have hpk := pw_pick _ _ _ _ w6 (hV.same hc6)
  have HPK := Lib.hid hpk
  have HW6 := Lib.hid hw6
  have HC6 := Lib.hid (HC4.out.then (hc5.then hc6))
  clear hV hc5 hc6 hb6 hw6 hpk HAP
  go_upto_region 3 with fail
  rw [← HW6.out]
  go_wp2_with fail
  refine HPK.out.mono ?_
  rintro e w7 ⟨fa, fc, b, tc, rfl, hz, hc7⟩
  have hz8 := kc_alloc (.cells #[.int .i64 0, .slice fa 2 fc, .slice (some ⟨b, 0, none⟩) 1 tc, .bool true] 37) hz
  have HC7 := Lib.hid (HC6.out.then hc7)
  clear hc7 v0 v1 v2 v3 v4 v5 v6
  go_wp2_with fail
  refine (pick_room12 _).mono ?_
  rintro e w9 ⟨rfl, hc9⟩
  have HC9 := Lib.hid ((HC7.out.alloc _).then hc9)
  clear hc9
  go_wp2_with fail
  go_ret
  exact ⟨rfl, HC9.out⟩
end Go.Proofs.Ytkhgfmmcjoglkaa
