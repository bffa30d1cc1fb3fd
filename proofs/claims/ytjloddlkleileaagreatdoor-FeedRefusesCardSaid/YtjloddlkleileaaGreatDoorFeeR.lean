/-
  The law's first look: a text that the document fixes.
-/
import Derived.Test.YtjloddlkleileaaGreatDoorFeeQ
namespace Go.Proofs.YtjloddlkleileaaGreatDoor
open Go.RowKit Go.Shelf
set_option linter.unusedVariables false
set_option linter.unusedSimpArgs false

def wkText : List UInt8 := [69, 32, 53, 32, 65, 32, 45, 50, 10, 77, 32, 54, 10]
def wkItems : List ItemV := [⟨false, 5, 65, -2⟩, ⟨true, 6, 0, 0⟩]
theorem itoa_dg (n : Nat) (h : n < 10) : Lib.itoa (n : Int) = [dByte (48 + n)] := by
  unfold Lib.itoa
  rw [if_neg (by omega)]
  show Lib.decDigits n = _
  exact dec_small h
theorem itoa_neg2 : Lib.itoa (-2) = [45, 50] := by
  unfold Lib.itoa
  rw [if_pos (by omega)]
  show _ :: Lib.decDigits 2 = _
  rw [dec_small (by omega)]
  rfl
theorem wk_show : showV wkItems = wkText := by
  have h5 : Lib.itoa 5 = [53] := itoa_dg 5 (by omega)
  have h6 : Lib.itoa 6 = [54] := itoa_dg 6 (by omega)
  simp [showV, wkItems, wkText, lineV, h5, h6, itoa_neg2]
theorem wk_parse : parseV wkText = .inl wkItems := by
  have h := parse_show (wkText.length + 1) wkItems [] (by
    intro x hx
    simp [wkItems] at hx
    rcases hx with rfl | rfl
    · exact ⟨by unfold maxN; decide, by unfold maxN; decide, by unfold maxN; decide, by unfold maxN; decide, by decide, by decide, by simp⟩
    · exact ⟨by unfold maxN; decide, by unfold maxN; decide, by unfold maxN; decide, by unfold maxN; decide, by decide, by decide, by simp⟩) (by decide)
  rw [wk_show] at h
  exact h
set_option maxRecDepth 100000 in
set_option maxHeartbeats 4000000 in
theorem lf_wakes (w : World) (ht : Tab w) (he : ErrOk w) (hm : MaxOk w) : Calls Tryz.prog 9 #[] w fun e w' => e = .returned (.bool true) ∧ Chg (fun _ => False) w w' := by
  have hp := fd_parse ⟨#[69, 32, 53, 32, 65, 32, 45, 50, 10, 77, 32, 54, 10]⟩ (by decide) w ht he hm
  have HP := Lib.hid hp
  have HT := Lib.hid ht
  clear hp ht he hm
  go_enter Tryz.func9, Tryz.ntmps9
  go_wp2_with fail
  refine HP.out.mono ?_
  rintro e w1 ⟨⟨v, l, hl, rfl, hL⟩ | ⟨k, hk, rfl⟩, hc1⟩
  · have hl2 : parseV (⟨#[69, 32, 53, 32, 65, 32, 45, 50, 10, 77, 32, 54, 10]⟩ : ByteArray).data.toList = .inl wkItems := wk_parse
    rw [hl2] at hl
    injection hl with hl
    subst hl
    obtain ⟨a, cap, rfl, hlc, _, hread⟩ := item_read hL
    obtain ⟨b, rfl, _, _, y0, y1, y2, y3⟩ := hread [] _ _ rfl
    obtain ⟨b', e', _, _, z0, z1, z2, z3⟩ := hread [⟨false, 5, 65, -2⟩] _ _ rfl
    injection e' with e'
    injection e' with e'
    subst e'
    have hsh := fd_show _ _ w1 hL (fun x hx => by
      simp [wkItems] at hx
      rcases hx with rfl | rfl <;> exact ⟨by decide, by decide, by decide, by decide⟩) (by decide) (HT.out.chg hc1)
    rw [wk_show] at hsh
    have HSH := Lib.hid hsh
    have HC1 := Lib.hid hc1
    have hl2 : wkItems.length = 2 := rfl
    rw [hl2] at HSH ⊢
    simp at y0 y1 y2 y3 z0 z1 z2 z3
    clear hread hL hsh hc1 hl2 hlc
    go_wp2_with fail
    refine HSH.out.mono ?_
    rintro e w2 ⟨rfl, hc2⟩
    have HC2 := Lib.hid (HC1.out.then hc2)
    have htest := ba_test ⟨wkText.toArray⟩ ⟨#[69, 32, 53, 32, 65, 32, 45, 50, 10, 77, 32, 54, 10]⟩
    rw [decide_eq_true (by rfl)] at htest
    clear hc2
    go_wp2_with fail
    go_ret
    exact ⟨rfl, HC2.out⟩
  · have hl2 : parseV (⟨#[69, 32, 53, 32, 65, 32, 45, 50, 10, 77, 32, 54, 10]⟩ : ByteArray).data.toList = .inl wkItems := wk_parse
    rw [hl2] at hk
    cases hk
end Go.Proofs.YtjloddlkleileaaGreatDoor
