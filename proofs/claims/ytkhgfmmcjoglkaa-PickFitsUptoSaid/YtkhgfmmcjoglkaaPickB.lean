/-
  How much a level may hold; whether it is full.
-/
import Derived.Test.YtkhgfmmcjoglkaaPickA
import Derived.Deep.DeepCutAuto
import Derived.IntWalk
namespace Go.Proofs.Ytkhgfmmcjoglkaa
open Go.RowKit
set_option linter.unusedVariables false
set_option linter.unusedSimpArgs false

set_option maxRecDepth 100000 in
set_option maxHeartbeats 2000000 in
theorem pick_room (z b r : Int) (hb : I64 b) (hr : I64 r) (level : Int) (h1 : 1 ≤ level) (h3 : level < 3) (w : World) :
    Calls Try.prog 19 #[.agg #[.int .i64 z, .int .i64 b, .int .i64 r], .int .i64 level] w fun e w' => (∃ R : Int, 1 ≤ R ∧ R ≤ 1152921504606846976 ∧ e = .returned (.int .i64 R)) ∧ Chg (fun _ => False) w w' := by
  obtain ⟨hb1, hb2⟩ := hb
  obtain ⟨hr1, hr2⟩ := hr
  obtain ⟨w1, hw1⟩ : ∃ w1, w1 = w.alloc (.cells #[.int .i64 z, .int .i64 b, .int .i64 r] 40) := ⟨_, rfl⟩
  have hc1 : Chg (fun _ => False) w w1 := by rw [hw1]; ((repeat (first | exact Chg.refl _ _ | assumption | refine Chg.drewN ?_ _ | refine Chg.drew ?_ | refine Chg.alloc ?_ _ | refine Chg.setCell ?_ (by first | (simp; done) | (simp; omega) | (intro h; simp at h; omega)) _)))
  have hb1' : Blk w1 w.heap.size 40 #[.int .i64 z, .int .i64 b, .int .i64 r] := by rw [hw1]; exact Blk.new w _ _
  have k1 := hb1'.cell 1
  have k2 := hb1'.cell 2
  simp at k1 k2
  have HW1 := Lib.hid hw1
  have HC1 := Lib.hid hc1
  clear hw1 hc1 hb1'
  go_enter Try.func19, Try.ntmps19
  go_upto_region 3 with fail
  rw [← HW1.out]
  go_cut [5, 6] (fun x t wx => (∃ X : Int, 1 ≤ X ∧ X ≤ 1152921504606846976 ∧ x = .int .i64 X) ∧ (∃ T : Int, 1 ≤ T ∧ T ≤ 9223372036854775807 ∧ t = .int .i64 T) ∧ Chg (fun _ => False) w wx)
  case first =>
    go_quiet (fail)
    go_wp2_with fail
    all_goals go_meet
    all_goals exact ⟨⟨_, by omega, by omega, rfl⟩, ⟨_, by omega, by omega, rfl⟩, by have := HC1.out; ((repeat (first | exact Chg.refl _ _ | assumption | refine Chg.drewN ?_ _ | refine Chg.drew ?_ | refine Chg.alloc ?_ _ | refine Chg.setCell ?_ (by first | (simp; done) | (simp; omega) | (intro h; simp at h; omega)) _)))⟩
  case rest =>
    obtain ⟨⟨X, hX1, hX2, rfl⟩, ⟨T, hT1, hT2, rfl⟩, hcx⟩ := hcut
    have HCX := Lib.hid hcx
    clear hcx k1 k2
    go_wp2_with fail
    have hlv : IntKind.i64.wrap (level - 1) = level - 1 := IntWalk.i64_in _ (by omega)
    go_loopw [5, 22] (fun x i wr => (∃ X : Int, 1 ≤ X ∧ X ≤ 1152921504606846976 ∧ x = .int .i64 X) ∧ (∃ k : Nat, (k : Int) ≤ level - 1 ∧ i = .int .i64 k) ∧ Chg (fun _ => False) w wr) (fun _ i _ => (level - 1).toNat - (intOf i).toNat)
    case atStart => exact ⟨⟨X, hX1, hX2, rfl⟩, ⟨0, by omega, rfl⟩, HCX.out⟩
    case round =>
      obtain ⟨⟨Y, hY1, hY2, rfl⟩, ⟨k, hk, rfl⟩, hc⟩ := hrel
      have HC := Lib.hid hc
      clear hc
      by_cases hlt : (k : Int) < level - 1
      · by_cases hq : 1152921504606846976 / T < Y
        · go_wp2_with fail
          go_ret
          exact ⟨⟨_, by omega, by omega, rfl⟩, HC.out⟩
        · have hq2 : ¬ 1152921504606846976 / T < Y := hq
          have hmul : Y * T ≤ 1152921504606846976 := by
            have h1 : Y * T ≤ (1152921504606846976 / T) * T := Int.mul_le_mul_of_nonneg_right (by omega) (by omega)
            have h2 : 1152921504606846976 / T * T ≤ 1152921504606846976 := Int.ediv_mul_le _ (by omega)
            omega
          have hmul1 : 1 ≤ Y * T := by
            have h1 : 1 * 1 ≤ Y * T := Int.mul_le_mul hY1 hT1 (by omega) (by omega)
            omega
          have hwm : IntKind.i64.wrap (Y * T) = Y * T := IntWalk.i64_in _ (by omega)
          go_wp2_with fail
          go_roundw
          case rel => exact ⟨⟨Y * T, hmul1, hmul, rfl⟩, ⟨k + 1, by omega, by go_num⟩, HC.out⟩
          case measure => simp [intOf]; omega
      · go_wp2_with fail
        go_ret
        exact ⟨⟨Y, hY1, hY2, rfl⟩, HC.out⟩

def FullPost (w : World) (S : VerV) (z : Int) (k : Nat) (e : Ending) (w' : World) : Prop := (∃ bo : Bool, e = .returned (.bool bo) ∧ (bo = true → k < 3 ∧ S.lv k ≠ []) ∧ (k = 0 → bo = decide (max 1 z ≤ ((S.lv 0).length : Int)))) ∧ Chg (fun _ => False) w w'
set_option maxRecDepth 100000 in
set_option maxHeartbeats 4000000 in
theorem pick_full (z b r : Int) (hz : I64 z) (hb : I64 b) (hr : I64 r) (l0 l1 l2 l3 : Value) (S : VerV) (k : Nat) (hk : k < 4) (w : World) (h : VerAt w (Lv l0 l1 l2 l3) S.lv) (hn : ∀ i, i < 4 → (S.lv i).length ≤ 100000000) :
    Calls Try.prog 10 #[.agg #[.int .i64 z, .int .i64 b, .int .i64 r], .agg #[l0, l1, l2, l3, .int .i64 S.log, .int .i64 S.next, .int .i64 S.seq], .int .i64 (k : Int)] w (FullPost w S z k) := by
  obtain ⟨w1, hw1⟩ : ∃ w1, w1 = (w.alloc (.cells #[.int .i64 z, .int .i64 b, .int .i64 r] 40)).alloc (.cells #[l0, l1, l2, l3, .int .i64 S.log, .int .i64 S.next, .int .i64 S.seq] 29) := ⟨_, rfl⟩
  have hc1 : Chg (fun _ => False) w w1 := by rw [hw1]; ((repeat (first | exact Chg.refl _ _ | assumption | refine Chg.drewN ?_ _ | refine Chg.drew ?_ | refine Chg.alloc ?_ _ | refine Chg.setCell ?_ (by first | (simp; done) | (simp; omega) | (intro h; simp at h; omega)) _)))
  have hb0 : Blk w1 w.heap.size 40 #[.int .i64 z, .int .i64 b, .int .i64 r] := by rw [hw1]; exact (Blk.new w _ _).alloc _
  have hb1 : Blk w1 (w.heap.size + 1) 29 #[l0, l1, l2, l3, .int .i64 S.log, .int .i64 S.next, .int .i64 S.seq] := by rw [hw1]; exact Blk.new1 w _ _ _
  obtain ⟨f, hf⟩ : ∃ f, S.lv k = f := ⟨_, rfl⟩
  have hv := h k hk
  have hnk := hn k hk
  rw [hf] at hv hnk
  obtain ⟨la, lc, hL, hlc, hln, hread⟩ := meta_form hv
  have hcell : w1.cell? ⟨w.heap.size + 1, k, none⟩ = some (.slice la f.length lc) := by
    rw [← hL]
    have := hb1.cell k
    match k, hk with
    | 0, _ => simpa [Lv] using this
    | 1, _ => simpa [Lv] using this
    | 2, _ => simpa [Lv] using this
    | 3, _ => simpa [Lv] using this
  have y0 := hb0.cell 0
  have y1 := hb0.cell 1
  have y2 := hb0.cell 2
  simp at y0 y1 y2
  have HR := Lib.hid hread
  have HC1 := Lib.hid hc1
  have HW1 := Lib.hid hw1
  have HB0 := Lib.hid hb0
  have HF := Lib.hid hf
  clear hread hc1 hw1 hb0 hb1 h hn hL hv hf
  obtain ⟨hz1, hz2⟩ := hz
  by_cases h3 : k = 3
  · subst h3
    go_enter Try.func10, Try.ntmps10
    go_upto_region 1 with fail
    rw [← HW1.out]
    go_wp2_with fail
    go_ret
    exact ⟨⟨false, rfl, by simp, fun h => absurd h (by decide)⟩, HC1.out⟩
  · by_cases h0 : k = 0
    · subst h0
      have y00 : w1.cell? ⟨w.heap.size + 1, 0, none⟩ = some (.slice la f.length lc) := hcell
      go_enter Try.func10, Try.ntmps10
      go_upto_region 1 with fail
      rw [← HW1.out]
      go_wp2_with fail
      go_ret
      refine ⟨⟨decide (max 1 z ≤ (f.length : Int)), rfl, fun hd => ⟨by omega, fun he => ?_⟩, fun _ => by rw [HF.out]⟩, HC1.out⟩
      have h2 := of_decide_eq_true hd
      have h3 : f = [] := by rw [← HF.out]; exact he
      rw [h3] at h2
      simp at h2
      omega
    · have hk1 : (1 : Int) ≤ (k : Int) := by omega
      have hk3 : (k : Int) < 3 := by omega
      have hke : ((k : Int) == 0) = false := by simp; omega
      have hke2 : ¬ (k : Int) = 0 := by omega
      have hro := fun W => pick_room z b r hb hr k (by omega) (by omega) W
      have HRO := Lib.hid hro
      clear hro
      go_enter Try.func10, Try.ntmps10
      go_upto_region 1 with fail
      rw [← HW1.out]
      go_wp2_with fail
      go_loopw [7, 33] (fun s i wr => ∃ A R, f = A ++ R ∧ i = .int .i64 A.length ∧ (∃ t : Int, s = .int .i64 t ∧ (A = [] → t = 0)) ∧ Chg (fun _ => False) w1 wr) (fun _ i _ => f.length - (intOf i).toNat)
      case atStart => exact ⟨[], f, rfl, rfl, ⟨0, rfl, fun _ => rfl⟩, Chg.refl _ _⟩
      case round =>
        obtain ⟨A, R, hL, rfl, ⟨t, rfl, ht⟩, hc⟩ := hrel
        have hAl : A.length ≤ f.length := by rw [hL]; simp
        cases R with
        | nil =>
          have hge : ¬ ((A.length : Int) < (f.length : Int)) := by rw [hL]; simp
          have hA : f = A := by rw [hL]; simp
          have HA := Lib.hid hA
          have HT := Lib.hid ht
          have q0 := (hc.cell (p := ⟨w.heap.size, 0, none⟩) HB0.out.lt (by simp)).trans y0
          have q1 := (hc.cell (p := ⟨w.heap.size, 1, none⟩) HB0.out.lt (by simp)).trans y1
          have q2 := (hc.cell (p := ⟨w.heap.size, 2, none⟩) HB0.out.lt (by simp)).trans y2
          have HC := Lib.hid (HC1.out.then hc)
          clear hL hA hc ht
          go_wp2_with fail
          refine (HRO.out _).mono ?_
          rintro e w5 ⟨⟨Rm, hR1, hR2, rfl⟩, hc5⟩
          have HC5 := Lib.hid (HC.out.then hc5)
          clear hc5
          go_wp2_with fail
          go_ret
          refine ⟨⟨decide (t > Rm), rfl, fun hd => ⟨by omega, fun he => ?_⟩, fun h => absurd h h0⟩, HC5.out⟩
          have h1 : t = 0 := HT.out (by rw [← HA.out, ← HF.out]; exact he)
          have h2 := of_decide_eq_true hd
          omega
        | cons y B =>
          obtain ⟨b', rfl, hb', _, z0, z1, z2, z3⟩ := HR.out A y B hL
          have hcw := HC1.out.then hc
          have z0 := (hcw.cell (p := ⟨b', _, none⟩) hb' (by simp)).trans z0
          have z1 := (hcw.cell (p := ⟨b', _, none⟩) hb' (by simp)).trans z1
          have z2 := (hcw.cell (p := ⟨b', _, none⟩) hb' (by simp)).trans z2
          have z3 := (hcw.cell (p := ⟨b', _, none⟩) hb' (by simp)).trans z3
          have hlt : (A.length : Int) < (f.length : Int) := by rw [hL]; simp; omega
          have hge : (0 : Int) ≤ (A.length : Int) := by omega
          have hL2 : f = (A ++ [y]) ++ B := by rw [hL]; simp
          have HL2 := Lib.hid hL2
          have HC := Lib.hid hc
          clear hL hL2 hc hcw ht
          go_wp2_with fail
          go_roundw
          case rel => exact ⟨A ++ [y], B, HL2.out, by simp, ⟨_, rfl, by simp⟩, HC.out.alloc _⟩
          case measure => simp [intOf]; omega
end Go.Proofs.Ytkhgfmmcjoglkaa
