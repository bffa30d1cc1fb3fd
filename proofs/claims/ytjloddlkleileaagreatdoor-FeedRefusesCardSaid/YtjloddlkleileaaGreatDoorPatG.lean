/-
  The document's reader of patterns: op, signed, step, cond.
-/
import Derived.Test.YtjloddlkleileaaGreatDoorPatF
import Derived.Test.YtjloddlkleileaaGreatDoorPatD
import Derived.Test.YtjloddlkleileaaGreatDoorLst
namespace Go.Proofs.YtjloddlkleileaaGreatDoor
open Go.RowKit
set_option linter.unusedVariables false
set_option linter.unusedSimpArgs false

theorem Chg.seto {g i : Nat} {v : Value} {w w1 : World} (h : Chg (fun k => k = g) w w1) : Chg (fun k => k = g) w (w1.setCell ⟨g, i, none⟩ v) := h.setCell (p := ⟨g, i, none⟩) (fun _ => rfl) v
/- a call of the reader: contract, number behind -/
/- a branch of what is read: the test's fact -/
/- a call of next whose answer is known: test · name of its fact · number -/
theorem numberS_in {s : List UInt8} {st : PSt} {a : UInt8} (ha : 48 ≤ a.toNat) : 0 ≤ (numberS s a st).1 ∧ (numberS s a st).1 < 1000000000 := by
  cases st with
  | inr c => rw [numberS_bad]; exact ⟨Int.le_refl _, by show (0 : Int) < 1000000000; decide⟩
  | inl k =>
    have h := number_sim (s := s) k a
    cases hn : numberP s k a with
    | inl x =>
      obtain ⟨n, j⟩ := x
      rw [hn] at h
      have h : numberS s a (.inl k) = (n, .inl j) := h
      rw [h]
      exact numberP_in ha hn
    | inr c =>
      rw [hn] at h
      have h : (numberS s a (.inl k)).2 = .inr c := h
      unfold numberS at h ⊢
      by_cases hb : badS (takeS s a 57 (.inl k)).2 = true ∨ (takeS s a 57 (.inl k)).1 = 48
      · rw [if_pos hb]; exact ⟨Int.le_refl _, by show (0 : Int) < 1000000000; decide⟩
      · rw [if_neg hb] at h
        have hs : ∃ j, (takeS s a 57 (.inl k)).2 = .inl j := by
          cases ht : (takeS s a 57 (.inl k)).2 with
          | inl j => exact ⟨j, rfl⟩
          | inr d => rw [ht] at hb; exact absurd (.inl rfl) hb
        obtain ⟨j, hj⟩ := hs
        rw [hj, digits_sim] at h
        cases h
set_option maxRecDepth 100000 in
set_option maxHeartbeats 2000000 in
theorem rp_op (r : Nat) (s : ByteArray) (st : PSt) (hs : s.size ≤ 4096) (w : World) (hR : QRd w r s st) : Calls Tryz.prog 78 #[.pointer (some ⟨r, 0, none⟩)] w (QPost w r s (.int .i64 (opS s.data.toList st).1) (opS s.data.toList st).2) := by
  obtain ⟨F, hF⟩ : ∃ F, opS s.data.toList st = F := ⟨_, rfl⟩
  have he := hF.symm
  rw [hF]
  clear hF
  unfold opS at he
  dsimp only at he
  cases h1 : isS s.data.toList 60 60 st with
  | true =>
    cases h2 : isS s.data.toList 61 61 (takeS s.data.toList 60 62 st).2 with
    | true =>
      rw [h1, h2] at he
      have he : F = (1, (takeS s.data.toList 61 61 (takeS s.data.toList 60 62 st).2).2) := he
      have hc : Chg (fun k => k = r) w w := Chg.refl _ _
      have HR := Lib.hid hR
      have HC := Lib.hid hc
      have HE := Lib.hid he
      clear hR hc he
      go_enter Tryz.func78, Tryz.ntmps78
      have hnx := rp_next r s _ 60 60 _ _ rfl rfl _ HR.out
      rw [h1] at hnx
      have HNX := Lib.hid hnx
      clear hnx
      go_wp2_with fail
      refine (HNX.out).mono ?_
      rintro e w1 ⟨rfl, hR1, h6⟩
      have hc1 := HC.out.then h6
      clear HR HC
      have HR := Lib.hid hR1
      have HC := Lib.hid hc1
      have H6 := Lib.hid h6
      clear hR1 hc1 h6
      clear HNX
      go_wp2_with fail
      refine (rp_next r s st 62 62 _ _ rfl rfl _ HR.out).mono ?_
      rintro e w2 ⟨rfl, hR2, h6⟩
      have hc2 := HC.out.then h6
      clear HR HC
      have HR := Lib.hid hR2
      have HC := Lib.hid hc2
      have H6 := Lib.hid h6
      clear hR2 hc2 h6
      go_wp2_with fail
      refine (rp_next r s st 33 33 _ _ rfl rfl _ HR.out).mono ?_
      rintro e w3 ⟨rfl, hR3, h6⟩
      have hc3 := HC.out.then h6
      clear HR HC
      have HR := Lib.hid hR3
      have HC := Lib.hid hc3
      have H6 := Lib.hid h6
      clear hR3 hc3 h6
      go_wp2_with fail
      refine (rp_take r s st 60 62 _ _ rfl rfl hs _ HR.out).mono ?_
      rintro e w4 ⟨rfl, hR4, h6⟩
      have hc4 := HC.out.then h6
      clear HR HC
      have HR := Lib.hid hR4
      have HC := Lib.hid hc4
      have H6 := Lib.hid h6
      clear hR4 hc4 h6
      have hnx := rp_next r s _ 61 61 _ _ rfl rfl _ HR.out
      rw [h2] at hnx
      have HNX := Lib.hid hnx
      clear hnx
      go_wp2_with fail
      refine (HNX.out).mono ?_
      rintro e w5 ⟨rfl, hR5, h6⟩
      have hc5 := HC.out.then h6
      clear HR HC
      have HR := Lib.hid hR5
      have HC := Lib.hid hc5
      have H6 := Lib.hid h6
      clear hR5 hc5 h6
      clear HNX
      go_wp2_with fail
      refine (rp_take r s _ 61 61 _ _ rfl rfl hs _ HR.out).mono ?_
      rintro e w6 ⟨rfl, hR6, h6⟩
      have hc6 := HC.out.then h6
      clear HR HC
      have HR := Lib.hid hR6
      have HC := Lib.hid hc6
      have H6 := Lib.hid h6
      clear hR6 hc6 h6
      go_wp2_with fail
      go_ret
      rw [HE.out]
      exact ⟨rfl, HR.out, HC.out⟩
    | false =>
      rw [h1, h2] at he
      have he : F = (0, (takeS s.data.toList 60 62 st).2) := he
      have hc : Chg (fun k => k = r) w w := Chg.refl _ _
      have HR := Lib.hid hR
      have HC := Lib.hid hc
      have HE := Lib.hid he
      clear hR hc he
      go_enter Tryz.func78, Tryz.ntmps78
      have hnx := rp_next r s _ 60 60 _ _ rfl rfl _ HR.out
      rw [h1] at hnx
      have HNX := Lib.hid hnx
      clear hnx
      go_wp2_with fail
      refine (HNX.out).mono ?_
      rintro e w1 ⟨rfl, hR1, h6⟩
      have hc1 := HC.out.then h6
      clear HR HC
      have HR := Lib.hid hR1
      have HC := Lib.hid hc1
      have H6 := Lib.hid h6
      clear hR1 hc1 h6
      clear HNX
      go_wp2_with fail
      refine (rp_next r s st 62 62 _ _ rfl rfl _ HR.out).mono ?_
      rintro e w2 ⟨rfl, hR2, h6⟩
      have hc2 := HC.out.then h6
      clear HR HC
      have HR := Lib.hid hR2
      have HC := Lib.hid hc2
      have H6 := Lib.hid h6
      clear hR2 hc2 h6
      go_wp2_with fail
      refine (rp_next r s st 33 33 _ _ rfl rfl _ HR.out).mono ?_
      rintro e w3 ⟨rfl, hR3, h6⟩
      have hc3 := HC.out.then h6
      clear HR HC
      have HR := Lib.hid hR3
      have HC := Lib.hid hc3
      have H6 := Lib.hid h6
      clear hR3 hc3 h6
      go_wp2_with fail
      refine (rp_take r s st 60 62 _ _ rfl rfl hs _ HR.out).mono ?_
      rintro e w4 ⟨rfl, hR4, h6⟩
      have hc4 := HC.out.then h6
      clear HR HC
      have HR := Lib.hid hR4
      have HC := Lib.hid hc4
      have H6 := Lib.hid h6
      clear hR4 hc4 h6
      have hnx := rp_next r s _ 61 61 _ _ rfl rfl _ HR.out
      rw [h2] at hnx
      have HNX := Lib.hid hnx
      clear hnx
      go_wp2_with fail
      refine (HNX.out).mono ?_
      rintro e w5 ⟨rfl, hR5, h6⟩
      have hc5 := HC.out.then h6
      clear HR HC
      have HR := Lib.hid hR5
      have HC := Lib.hid hc5
      have H6 := Lib.hid h6
      clear hR5 hc5 h6
      clear HNX
      go_wp2_with fail
      go_ret
      rw [HE.out]
      exact ⟨rfl, HR.out, HC.out⟩
  | false =>
    cases h3 : isS s.data.toList 62 62 st with
    | true =>
      cases h2 : isS s.data.toList 61 61 (takeS s.data.toList 60 62 st).2 with
      | true =>
        rw [h1, h2, h3] at he
        have he : F = (4, (takeS s.data.toList 61 61 (takeS s.data.toList 60 62 st).2).2) := he
        have hc : Chg (fun k => k = r) w w := Chg.refl _ _
        have HR := Lib.hid hR
        have HC := Lib.hid hc
        have HE := Lib.hid he
        clear hR hc he
        go_enter Tryz.func78, Tryz.ntmps78
        have hnx := rp_next r s _ 60 60 _ _ rfl rfl _ HR.out
        rw [h1] at hnx
        have HNX := Lib.hid hnx
        clear hnx
        go_wp2_with fail
        refine (HNX.out).mono ?_
        rintro e w1 ⟨rfl, hR1, h6⟩
        have hc1 := HC.out.then h6
        clear HR HC
        have HR := Lib.hid hR1
        have HC := Lib.hid hc1
        have H6 := Lib.hid h6
        clear hR1 hc1 h6
        clear HNX
        have hnx := rp_next r s _ 62 62 _ _ rfl rfl _ HR.out
        rw [h3] at hnx
        have HNX := Lib.hid hnx
        clear hnx
        go_wp2_with fail
        refine (HNX.out).mono ?_
        rintro e w2 ⟨rfl, hR2, h6⟩
        have hc2 := HC.out.then h6
        clear HR HC
        have HR := Lib.hid hR2
        have HC := Lib.hid hc2
        have H6 := Lib.hid h6
        clear hR2 hc2 h6
        clear HNX
        go_wp2_with fail
        refine (rp_next r s st 33 33 _ _ rfl rfl _ HR.out).mono ?_
        rintro e w3 ⟨rfl, hR3, h6⟩
        have hc3 := HC.out.then h6
        clear HR HC
        have HR := Lib.hid hR3
        have HC := Lib.hid hc3
        have H6 := Lib.hid h6
        clear hR3 hc3 h6
        go_wp2_with fail
        refine (rp_take r s st 60 62 _ _ rfl rfl hs _ HR.out).mono ?_
        rintro e w4 ⟨rfl, hR4, h6⟩
        have hc4 := HC.out.then h6
        clear HR HC
        have HR := Lib.hid hR4
        have HC := Lib.hid hc4
        have H6 := Lib.hid h6
        clear hR4 hc4 h6
        have hnx := rp_next r s _ 61 61 _ _ rfl rfl _ HR.out
        rw [h2] at hnx
        have HNX := Lib.hid hnx
        clear hnx
        go_wp2_with fail
        refine (HNX.out).mono ?_
        rintro e w5 ⟨rfl, hR5, h6⟩
        have hc5 := HC.out.then h6
        clear HR HC
        have HR := Lib.hid hR5
        have HC := Lib.hid hc5
        have H6 := Lib.hid h6
        clear hR5 hc5 h6
        clear HNX
        go_wp2_with fail
        refine (rp_take r s _ 61 61 _ _ rfl rfl hs _ HR.out).mono ?_
        rintro e w6 ⟨rfl, hR6, h6⟩
        have hc6 := HC.out.then h6
        clear HR HC
        have HR := Lib.hid hR6
        have HC := Lib.hid hc6
        have H6 := Lib.hid h6
        clear hR6 hc6 h6
        go_wp2_with fail
        go_ret
        rw [HE.out]
        exact ⟨rfl, HR.out, HC.out⟩
      | false =>
        rw [h1, h2, h3] at he
        have he : F = (5, (takeS s.data.toList 60 62 st).2) := he
        have hc : Chg (fun k => k = r) w w := Chg.refl _ _
        have HR := Lib.hid hR
        have HC := Lib.hid hc
        have HE := Lib.hid he
        clear hR hc he
        go_enter Tryz.func78, Tryz.ntmps78
        have hnx := rp_next r s _ 60 60 _ _ rfl rfl _ HR.out
        rw [h1] at hnx
        have HNX := Lib.hid hnx
        clear hnx
        go_wp2_with fail
        refine (HNX.out).mono ?_
        rintro e w1 ⟨rfl, hR1, h6⟩
        have hc1 := HC.out.then h6
        clear HR HC
        have HR := Lib.hid hR1
        have HC := Lib.hid hc1
        have H6 := Lib.hid h6
        clear hR1 hc1 h6
        clear HNX
        have hnx := rp_next r s _ 62 62 _ _ rfl rfl _ HR.out
        rw [h3] at hnx
        have HNX := Lib.hid hnx
        clear hnx
        go_wp2_with fail
        refine (HNX.out).mono ?_
        rintro e w2 ⟨rfl, hR2, h6⟩
        have hc2 := HC.out.then h6
        clear HR HC
        have HR := Lib.hid hR2
        have HC := Lib.hid hc2
        have H6 := Lib.hid h6
        clear hR2 hc2 h6
        clear HNX
        go_wp2_with fail
        refine (rp_next r s st 33 33 _ _ rfl rfl _ HR.out).mono ?_
        rintro e w3 ⟨rfl, hR3, h6⟩
        have hc3 := HC.out.then h6
        clear HR HC
        have HR := Lib.hid hR3
        have HC := Lib.hid hc3
        have H6 := Lib.hid h6
        clear hR3 hc3 h6
        go_wp2_with fail
        refine (rp_take r s st 60 62 _ _ rfl rfl hs _ HR.out).mono ?_
        rintro e w4 ⟨rfl, hR4, h6⟩
        have hc4 := HC.out.then h6
        clear HR HC
        have HR := Lib.hid hR4
        have HC := Lib.hid hc4
        have H6 := Lib.hid h6
        clear hR4 hc4 h6
        have hnx := rp_next r s _ 61 61 _ _ rfl rfl _ HR.out
        rw [h2] at hnx
        have HNX := Lib.hid hnx
        clear hnx
        go_wp2_with fail
        refine (HNX.out).mono ?_
        rintro e w5 ⟨rfl, hR5, h6⟩
        have hc5 := HC.out.then h6
        clear HR HC
        have HR := Lib.hid hR5
        have HC := Lib.hid hc5
        have H6 := Lib.hid h6
        clear hR5 hc5 h6
        clear HNX
        go_wp2_with fail
        go_ret
        rw [HE.out]
        exact ⟨rfl, HR.out, HC.out⟩
    | false =>
      cases h2 : isS s.data.toList 33 33 st with
      | true =>
        rw [h1, h2, h3] at he
        have he : F = (3, wordS s.data.toList [33, 61] st) := he
        have hc : Chg (fun k => k = r) w w := Chg.refl _ _
        have HR := Lib.hid hR
        have HC := Lib.hid hc
        have HE := Lib.hid he
        clear hR hc he
        go_enter Tryz.func78, Tryz.ntmps78
        have hnx := rp_next r s _ 60 60 _ _ rfl rfl _ HR.out
        rw [h1] at hnx
        have HNX := Lib.hid hnx
        clear hnx
        go_wp2_with fail
        refine (HNX.out).mono ?_
        rintro e w1 ⟨rfl, hR1, h6⟩
        have hc1 := HC.out.then h6
        clear HR HC
        have HR := Lib.hid hR1
        have HC := Lib.hid hc1
        have H6 := Lib.hid h6
        clear hR1 hc1 h6
        clear HNX
        have hnx := rp_next r s _ 62 62 _ _ rfl rfl _ HR.out
        rw [h3] at hnx
        have HNX := Lib.hid hnx
        clear hnx
        go_wp2_with fail
        refine (HNX.out).mono ?_
        rintro e w2 ⟨rfl, hR2, h6⟩
        have hc2 := HC.out.then h6
        clear HR HC
        have HR := Lib.hid hR2
        have HC := Lib.hid hc2
        have H6 := Lib.hid h6
        clear hR2 hc2 h6
        clear HNX
        have hnx := rp_next r s _ 33 33 _ _ rfl rfl _ HR.out
        rw [h2] at hnx
        have HNX := Lib.hid hnx
        clear hnx
        go_wp2_with fail
        refine (HNX.out).mono ?_
        rintro e w3 ⟨rfl, hR3, h6⟩
        have hc3 := HC.out.then h6
        clear HR HC
        have HR := Lib.hid hR3
        have HC := Lib.hid hc3
        have H6 := Lib.hid h6
        clear hR3 hc3 h6
        clear HNX
        go_wp2_with fail
        refine (rp_word r s ⟨#[33, 61]⟩ [33, 61] rfl st hs (by decide) _ HR.out).mono ?_
        rintro e w4 ⟨rfl, hR4, h6⟩
        have hc4 := HC.out.then h6
        clear HR HC
        have HR := Lib.hid hR4
        have HC := Lib.hid hc4
        have H6 := Lib.hid h6
        clear hR4 hc4 h6
        go_wp2_with fail
        go_ret
        rw [HE.out]
        exact ⟨rfl, HR.out, HC.out⟩
      | false =>
        rw [h1, h2, h3] at he
        have he : F = (2, (takeS s.data.toList 61 61 st).2) := he
        have hc : Chg (fun k => k = r) w w := Chg.refl _ _
        have HR := Lib.hid hR
        have HC := Lib.hid hc
        have HE := Lib.hid he
        clear hR hc he
        go_enter Tryz.func78, Tryz.ntmps78
        have hnx := rp_next r s _ 60 60 _ _ rfl rfl _ HR.out
        rw [h1] at hnx
        have HNX := Lib.hid hnx
        clear hnx
        go_wp2_with fail
        refine (HNX.out).mono ?_
        rintro e w1 ⟨rfl, hR1, h6⟩
        have hc1 := HC.out.then h6
        clear HR HC
        have HR := Lib.hid hR1
        have HC := Lib.hid hc1
        have H6 := Lib.hid h6
        clear hR1 hc1 h6
        clear HNX
        have hnx := rp_next r s _ 62 62 _ _ rfl rfl _ HR.out
        rw [h3] at hnx
        have HNX := Lib.hid hnx
        clear hnx
        go_wp2_with fail
        refine (HNX.out).mono ?_
        rintro e w2 ⟨rfl, hR2, h6⟩
        have hc2 := HC.out.then h6
        clear HR HC
        have HR := Lib.hid hR2
        have HC := Lib.hid hc2
        have H6 := Lib.hid h6
        clear hR2 hc2 h6
        clear HNX
        have hnx := rp_next r s _ 33 33 _ _ rfl rfl _ HR.out
        rw [h2] at hnx
        have HNX := Lib.hid hnx
        clear hnx
        go_wp2_with fail
        refine (HNX.out).mono ?_
        rintro e w3 ⟨rfl, hR3, h6⟩
        have hc3 := HC.out.then h6
        clear HR HC
        have HR := Lib.hid hR3
        have HC := Lib.hid hc3
        have H6 := Lib.hid h6
        clear hR3 hc3 h6
        clear HNX
        go_wp2_with fail
        refine (rp_take r s st 61 61 _ _ rfl rfl hs _ HR.out).mono ?_
        rintro e w4 ⟨rfl, hR4, h6⟩
        have hc4 := HC.out.then h6
        clear HR HC
        have HR := Lib.hid hR4
        have HC := Lib.hid hc4
        have H6 := Lib.hid h6
        clear hR4 hc4 h6
        go_wp2_with fail
        go_ret
        rw [HE.out]
        exact ⟨rfl, HR.out, HC.out⟩
set_option maxRecDepth 100000 in
set_option maxHeartbeats 2000000 in
theorem rp_signed (r : Nat) (s : ByteArray) (st : PSt) (hs : s.size ≤ 4096) (w : World) (hR : QRd w r s st) : Calls Tryz.prog 79 #[.pointer (some ⟨r, 0, none⟩)] w (QPost w r s (.int .i64 (signedS s.data.toList st).1) (signedS s.data.toList st).2) := by
  obtain ⟨F, hF⟩ : ∃ F, signedS s.data.toList st = F := ⟨_, rfl⟩
  have he := hF.symm
  rw [hF]
  clear hF
  unfold signedS at he
  have hc : Chg (fun k => k = r) w w := Chg.refl _ _
  cases h1 : isS s.data.toList 45 45 st with
  | true =>
    rw [if_pos h1] at he
    have hb := numberS_in (s := s.data.toList) (st := (takeS s.data.toList 45 45 st).2) (a := 49) (by decide)
    have hi := IntWalk.i64_in (-(numberS s.data.toList 49 (takeS s.data.toList 45 45 st).2).1) (by omega)
    have HR := Lib.hid hR
    have HC := Lib.hid hc
    have HE := Lib.hid he
    clear hR hc he
    go_enter Tryz.func79, Tryz.ntmps79
    have hnx := rp_next r s _ 45 45 _ _ rfl rfl _ HR.out
    rw [h1] at hnx
    have HNX := Lib.hid hnx
    clear hnx
    go_wp2_with fail
    refine (HNX.out).mono ?_
    rintro e w1 ⟨rfl, hR1, h6⟩
    have hc1 := HC.out.then h6
    clear HR HC
    have HR := Lib.hid hR1
    have HC := Lib.hid hc1
    have H6 := Lib.hid h6
    clear hR1 hc1 h6
    clear HNX
    go_wp2_with fail
    refine (rp_take r s st 45 45 _ _ rfl rfl hs _ HR.out).mono ?_
    rintro e w2 ⟨rfl, hR2, h6⟩
    have hc2 := HC.out.then h6
    clear HR HC
    have HR := Lib.hid hR2
    have HC := Lib.hid hc2
    have H6 := Lib.hid h6
    clear hR2 hc2 h6
    go_wp2_with fail
    refine (rp_number r s _ 49 49 rfl (by decide) hs _ HR.out).mono ?_
    rintro e w3 ⟨rfl, hR3, h6⟩
    have hc3 := HC.out.then h6
    clear HR HC
    have HR := Lib.hid hR3
    have HC := Lib.hid hc3
    have H6 := Lib.hid h6
    clear hR3 hc3 h6
    go_wp2_with fail
    go_ret
    rw [HE.out]
    exact ⟨rfl, HR.out, HC.out⟩
  | false =>
    rw [if_neg (by rw [h1]; decide)] at he
    have HR := Lib.hid hR
    have HC := Lib.hid hc
    have HE := Lib.hid he
    clear hR hc he
    go_enter Tryz.func79, Tryz.ntmps79
    have hnx := rp_next r s _ 45 45 _ _ rfl rfl _ HR.out
    rw [h1] at hnx
    have HNX := Lib.hid hnx
    clear hnx
    go_wp2_with fail
    refine (HNX.out).mono ?_
    rintro e w1 ⟨rfl, hR1, h6⟩
    have hc1 := HC.out.then h6
    clear HR HC
    have HR := Lib.hid hR1
    have HC := Lib.hid hc1
    have H6 := Lib.hid h6
    clear hR1 hc1 h6
    clear HNX
    go_wp2_with fail
    refine (rp_take r s st 43 43 _ _ rfl rfl hs _ HR.out).mono ?_
    rintro e w2 ⟨rfl, hR2, h6⟩
    have hc2 := HC.out.then h6
    clear HR HC
    have HR := Lib.hid hR2
    have HC := Lib.hid hc2
    have H6 := Lib.hid h6
    clear hR2 hc2 h6
    go_wp2_with fail
    refine (rp_number r s _ 49 49 rfl (by decide) hs _ HR.out).mono ?_
    rintro e w3 ⟨rfl, hR3, h6⟩
    have hc3 := HC.out.then h6
    clear HR HC
    have HR := Lib.hid hR3
    have HC := Lib.hid hc3
    have H6 := Lib.hid h6
    clear hR3 hc3 h6
    go_wp2_with fail
    go_ret
    rw [HE.out]
    exact ⟨rfl, HR.out, HC.out⟩
/- where the reader stands: its cell, for the load of r.At -/
/- a call whose result has a name: contract · the name's fact · number -/
set_option maxRecDepth 100000 in
set_option maxHeartbeats 8000000 in
theorem rp_step (r : Nat) (s : ByteArray) (st : PSt) (n : Nat) (hn : n ≤ 1000000) (hs : s.size ≤ 4096) (w : World) (hR : QRd w r s st) : Calls Tryz.prog 41 #[.pointer (some ⟨r, 0, none⟩), .int .i64 (n : Int)] w (QPost w r s (stV (stepS s.data.toList n st).1) (stepS s.data.toList n st).2) := by
  obtain ⟨F, hF⟩ : ∃ F, stepS s.data.toList n st = F := ⟨_, rfl⟩
  have he := hF.symm
  rw [hF]
  clear hF
  unfold stepS at he
  dsimp only at he
  obtain ⟨S1, h1⟩ : ∃ x, notS s.data.toList n st = x := ⟨_, rfl⟩
  obtain ⟨T1, h2⟩ : ∃ x, takeS s.data.toList 65 90 S1 = x := ⟨_, rfl⟩
  obtain ⟨S2, h3⟩ : ∃ x, manyS 8 n T1.2 = x := ⟨_, rfl⟩
  obtain ⟨S3, h4⟩ : ∃ x, (takeS s.data.toList 32 32 S2).2 = x := ⟨_, rfl⟩
  obtain ⟨T2, h5⟩ : ∃ x, takeS s.data.toList 97 122 S3 = x := ⟨_, rfl⟩
  obtain ⟨b, h6'⟩ : ∃ x, isS s.data.toList 33 33 st = x := ⟨_, rfl⟩
  rw [h1, h2, h3, h4, h5, h6'] at he
  have hrl := hR.lt
  obtain ⟨k, bd, p, hB, ht⟩ := hR
  obtain ⟨w1, hw1⟩ : ∃ w1, w1 = (w.alloc (.cells #[.int .u8 0, .int .u8 0, .bool false, .int .i64 0, .int .i64 0] 130)).alloc (.cells #[.int .u8 0, .int .u8 0, .bool false, .int .i64 1, .int .i64 1] 130) := ⟨_, rfl⟩
  have hc1 : Chg (fun k => k = r) w w1 := by rw [hw1]; ((repeat (first | exact Chg.refl _ _ | assumption | refine Chg.drewN ?_ _ | refine Chg.drew ?_ | refine Chg.alloc ?_ _ | refine Chg.setCell ?_ (by first | (simp; done) | (simp; omega) | (intro h; simp at h; omega)) _)))
  have hR1 : QRd w1 r s st := ⟨k, bd, p, by rw [hw1]; exact (hB.alloc _).alloc _, ht⟩
  have hb1 : Blk w1 w.heap.size 130 #[.int .u8 0, .int .u8 0, .bool false, .int .i64 0, .int .i64 0] := by rw [hw1]; exact (Blk.new _ _ _).alloc _
  have hz1 : Blk w1 (w.heap.size + 1) 130 #[.int .u8 0, .int .u8 0, .bool false, .int .i64 1, .int .i64 1] := by rw [hw1]; exact Blk.new1 _ _ _ _
  have y1 := ((hB.alloc (.cells #[.int .u8 0, .int .u8 0, .bool false, .int .i64 0, .int .i64 0] 130)).alloc (.cells #[.int .u8 0, .int .u8 0, .bool false, .int .i64 1, .int .i64 1] 130)).cell 1
  rw [← hw1] at y1
  simp at y1
  obtain ⟨g, hg'⟩ : ∃ g, w.heap.size = g := ⟨_, rfl⟩
  have hg : r < g := by omega
  have hgw : w.heap.size ≤ g := by omega
  obtain ⟨gs, hgs'⟩ : ∃ gs, w.heap.size + 1 = gs := ⟨_, rfl⟩
  have hgs : r < gs := by omega
  have hgw2 : w.heap.size ≤ gs := by omega
  have hgg : g ≠ gs := by omega
  rw [hg'] at hb1
  rw [hgs'] at hz1
  have HSC := Lib.hid hgs'
  clear hB ht hgs'
  have HN1 := Lib.hid h1
  have HN2 := Lib.hid h2
  have HN3 := Lib.hid h3
  have HN4 := Lib.hid h4
  have HN5 := Lib.hid h5
  have HN6 := Lib.hid h6'
  have HE := Lib.hid he
  have HC := Lib.hid hc1
  have HR := Lib.hid hR1
  have HB := Lib.hid hb1
  have HZ := Lib.hid hz1
  have HW1 := Lib.hid hw1
  have HG' := Lib.hid hg'
  have HRL := Lib.hid hrl
  clear h1 h2 h3 h4 h5 h6' he hc1 hR1 hb1 hz1 hw1 hg' hrl
  go_enter Tryz.func41, Tryz.ntmps41
  go_upto_region 2 with fail
  rw [← HW1.out, HG'.out, ← HG'.out, HSC.out, HG'.out]
  have hxx := rp_next r s st 33 33 _ _ rfl rfl _ HR.out
  rw [HN6.out] at hxx
  have HXX := Lib.hid hxx
  clear hxx
  go_wp2_with fail
  refine (HXX.out).mono ?_
  rintro e w2 ⟨rfl, hR2, h6⟩
  have hc2 := HC.out.then h6
  clear HR HC
  have HR := Lib.hid hR2
  have HC := Lib.hid hc2
  have H6 := Lib.hid h6
  clear hR2 hc2 h6
  clear HXX
  have hb := HB.out.chg H6.out (Nat.ne_of_gt hg)
  have hz := HZ.out.chg H6.out (Nat.ne_of_gt hgs)
  clear HB HZ H6
  have HB := Lib.hid hb
  have HZ := Lib.hid hz
  clear hb hz
  have z0 := HZ.out.cell 0
  have z1 := HZ.out.cell 1
  have z2 := HZ.out.cell 2
  have z3 := HZ.out.cell 3
  have z4 := HZ.out.cell 4
  simp at z0 z1 z2 z3 z4
  have zf0 := HZ.out.frozen 0
  have zf1 := HZ.out.frozen 1
  have zf2 := HZ.out.frozen 2
  have zf3 := HZ.out.frozen 3
  have zf4 := HZ.out.frozen 4
  go_upto_region 4 with fail
  obtain ⟨w3, hw3⟩ : ∃ w', w' = w2.setCell ⟨gs, 2, none⟩ (.bool b) := ⟨_, rfl⟩
  rw [← hw3]
  have hsc : Chg (fun k => k = gs) w2 w3 := by rw [hw3]; exact Chg.seto (Chg.refl _ _)
  have hR3 := HR.out.chg hsc (Nat.ne_of_lt hgs)
  have hc3 := HC.out.setw hw3 hgw2
  have hb3 := HB.out.farw hw3 hgg
  have hz3 := HZ.out.setw hw3
  simp only [List.setIfInBounds_toArray, List.set_cons_zero, List.set_cons_succ] at hz3
  clear HR HC HB HZ hw3
  have HR := Lib.hid hR3
  have HC := Lib.hid hc3
  have HB := Lib.hid hb3
  have HZ := Lib.hid hz3
  clear hR3 hc3 hb3 hz3
  clear z0 z1 z2 z3 z4 zf0 zf1 zf2 zf3 zf4 y1
  have z0 := HZ.out.cell 0
  have z1 := HZ.out.cell 1
  have z2 := HZ.out.cell 2
  have z3 := HZ.out.cell 3
  have z4 := HZ.out.cell 4
  simp at z0 z1 z2 z3 z4
  go_upto_if 20 with fail
  go_cut [] (fun wx => QRd wx r s S1 ∧ Chg (fun k => k = r) w wx ∧ Blk wx g 130 #[.int .u8 0, .int .u8 0, .bool false, .int .i64 0, .int .i64 0] ∧ Blk wx gs 130 #[.int .u8 0, .int .u8 0, .bool b, .int .i64 1, .int .i64 1])
  case first =>
    have hn1 := HN1.out
    have hn6 := HN6.out
    unfold notS at hn1
    rw [hn6] at hn1
    clear hn6
    cases b with
    | false =>
      rw [if_neg (by decide)] at hn1
      have HN12 := Lib.hid hn1
      clear hn1
      go_wp2_with fail
      go_meet
      exact ⟨by rw [← HN12.out]; exact HR.out, HC.out, HB.out, HZ.out⟩
    | true =>
      rw [if_pos rfl] at hn1
      by_cases h8 : 8 ≤ n
      · rw [if_pos h8] at hn1
        have q : decide ((n : Int) ≥ 8) = true := by simp; omega
        have HN12 := Lib.hid hn1
        clear hn1
        go_wp2_with fail
        refine (rp_take r s st 33 33 _ _ rfl rfl hs _ HR.out).mono ?_
        rintro e w5 ⟨rfl, hR5, h6⟩
        have hc5 := HC.out.then h6
        clear HR HC
        have HR := Lib.hid hR5
        have HC := Lib.hid hc5
        have H6 := Lib.hid h6
        clear hR5 hc5 h6
        have hb := HB.out.chg H6.out (Nat.ne_of_gt hg)
        have hz := HZ.out.chg H6.out (Nat.ne_of_gt hgs)
        clear HB HZ H6
        have HB := Lib.hid hb
        have HZ := Lib.hid hz
        clear hb hz
        go_wp2_with fail
        refine (rp_fail r s _ _ 24 (by decide) _ HR.out).mono ?_
        rintro e w6 ⟨rfl, hR6, h6⟩
        have hc6 := HC.out.then h6
        clear HR HC
        have HR := Lib.hid hR6
        have HC := Lib.hid hc6
        have H6 := Lib.hid h6
        clear hR6 hc6 h6
        have hb := HB.out.chg H6.out (Nat.ne_of_gt hg)
        have hz := HZ.out.chg H6.out (Nat.ne_of_gt hgs)
        clear HB HZ H6
        have HB := Lib.hid hb
        have HZ := Lib.hid hz
        clear hb hz
        go_wp2_with fail
        go_meet
        exact ⟨by rw [← HN12.out]; exact HR.out, HC.out, HB.out, HZ.out⟩
      · rw [if_neg h8] at hn1
        have q : decide ((n : Int) ≥ 8) = false := by simp; omega
        have HN12 := Lib.hid hn1
        clear hn1
        go_wp2_with fail
        refine (rp_take r s st 33 33 _ _ rfl rfl hs _ HR.out).mono ?_
        rintro e w5 ⟨rfl, hR5, h6⟩
        have hc5 := HC.out.then h6
        clear HR HC
        have HR := Lib.hid hR5
        have HC := Lib.hid hc5
        have H6 := Lib.hid h6
        clear hR5 hc5 h6
        have hb := HB.out.chg H6.out (Nat.ne_of_gt hg)
        have hz := HZ.out.chg H6.out (Nat.ne_of_gt hgs)
        clear HB HZ H6
        have HB := Lib.hid hb
        have HZ := Lib.hid hz
        clear hb hz
        go_wp2_with fail
        go_meet
        exact ⟨by rw [← HN12.out]; exact HR.out, HC.out, HB.out, HZ.out⟩
  case rest =>
  clear HR HC HB HZ z0 z1 z2 z3 z4 hsc
  obtain ⟨hR, hc, hb, hz⟩ := hcut
  obtain ⟨w4, hw4⟩ : ∃ w4, w4 = wc := ⟨_, rfl⟩
  subst hw4
  have HR := Lib.hid hR
  have HC := Lib.hid hc
  have HB := Lib.hid hb
  have HZ := Lib.hid hz
  clear hR hc hb hz
  have hxx := rp_take r s S1 65 90 _ _ rfl rfl hs _ HR.out
  rw [HN2.out] at hxx
  have HXX := Lib.hid hxx
  clear hxx
  go_wp2_with fail
  refine (HXX.out).mono ?_
  rintro e w5 ⟨rfl, hR5, h6⟩
  have hc5 := HC.out.then h6
  clear HR HC
  have HR := Lib.hid hR5
  have HC := Lib.hid hc5
  have H6 := Lib.hid h6
  clear hR5 hc5 h6
  clear HXX
  have hb := HB.out.chg H6.out (Nat.ne_of_gt hg)
  have hz := HZ.out.chg H6.out (Nat.ne_of_gt hgs)
  clear HB HZ H6
  have HB := Lib.hid hb
  have HZ := Lib.hid hz
  clear hb hz
  have z0 := HZ.out.cell 0
  have z1 := HZ.out.cell 1
  have z2 := HZ.out.cell 2
  have z3 := HZ.out.cell 3
  have z4 := HZ.out.cell 4
  simp at z0 z1 z2 z3 z4
  have zf0 := HZ.out.frozen 0
  have zf1 := HZ.out.frozen 1
  have zf2 := HZ.out.frozen 2
  have zf3 := HZ.out.frozen 3
  have zf4 := HZ.out.frozen 4
  go_upto_region 9 with fail
  obtain ⟨w6, hw6⟩ : ∃ w', w' = w5.setCell ⟨gs, 0, none⟩ (bV T1.1) := ⟨_, rfl⟩
  rw [← hw6]
  have hsc : Chg (fun k => k = gs) w5 w6 := by rw [hw6]; exact Chg.seto (Chg.refl _ _)
  have hR3 := HR.out.chg hsc (Nat.ne_of_lt hgs)
  have hc3 := HC.out.setw hw6 hgw2
  have hb3 := HB.out.farw hw6 hgg
  have hz3 := HZ.out.setw hw6
  simp only [List.setIfInBounds_toArray, List.set_cons_zero, List.set_cons_succ] at hz3
  clear HR HC HB HZ hw6
  have HR := Lib.hid hR3
  have HC := Lib.hid hc3
  have HB := Lib.hid hb3
  have HZ := Lib.hid hz3
  clear hR3 hc3 hb3 hz3
  clear z0 z1 z2 z3 z4 zf0 zf1 zf2 zf3 zf4 hsc
  go_upto_if 32 with fail
  go_cut [] (fun wx => QRd wx r s S2 ∧ Chg (fun k => k = r) w wx ∧ Blk wx g 130 #[.int .u8 0, .int .u8 0, .bool false, .int .i64 0, .int .i64 0] ∧ Blk wx gs 130 #[bV T1.1, .int .u8 0, .bool b, .int .i64 1, .int .i64 1])
  case first =>
    have hn3 := HN3.out
    unfold manyS at hn3
    by_cases h8 : 8 ≤ n
    · rw [if_pos h8] at hn3
      have q : decide ((n : Int) ≥ 8) = true := by simp; omega
      have HN32 := Lib.hid hn3
      clear hn3
      go_wp2_with fail
      refine (rp_fail r s _ _ 24 (by decide) _ HR.out).mono ?_
      rintro e w7 ⟨rfl, hR7, h6⟩
      have hc7 := HC.out.then h6
      clear HR HC
      have HR := Lib.hid hR7
      have HC := Lib.hid hc7
      have H6 := Lib.hid h6
      clear hR7 hc7 h6
      have hb := HB.out.chg H6.out (Nat.ne_of_gt hg)
      have hz := HZ.out.chg H6.out (Nat.ne_of_gt hgs)
      clear HB HZ H6
      have HB := Lib.hid hb
      have HZ := Lib.hid hz
      clear hb hz
      go_wp2_with fail
      go_meet
      exact ⟨by rw [← HN32.out]; exact HR.out, HC.out, HB.out, HZ.out⟩
    · rw [if_neg h8] at hn3
      have q : decide ((n : Int) ≥ 8) = false := by simp; omega
      have HN32 := Lib.hid hn3
      clear hn3
      go_wp2_with fail
      go_meet
      exact ⟨by rw [← HN32.out]; exact HR.out, HC.out, HB.out, HZ.out⟩
  case rest =>
  clear HR HC HB HZ
  obtain ⟨hR, hc, hb, hz⟩ := hcut
  obtain ⟨w7, hw7⟩ : ∃ w7, w7 = wc := ⟨_, rfl⟩
  subst hw7
  have HR := Lib.hid hR
  have HC := Lib.hid hc
  have HB := Lib.hid hb
  have HZ := Lib.hid hz
  clear hR hc hb hz
  have hxx := rp_take r s S2 32 32 _ _ rfl rfl hs _ HR.out
  rw [HN4.out] at hxx
  have HXX := Lib.hid hxx
  clear hxx
  go_wp2_with fail
  refine (HXX.out).mono ?_
  rintro e w8 ⟨rfl, hR8, h6⟩
  have hc8 := HC.out.then h6
  clear HR HC
  have HR := Lib.hid hR8
  have HC := Lib.hid hc8
  have H6 := Lib.hid h6
  clear hR8 hc8 h6
  clear HXX
  have hb := HB.out.chg H6.out (Nat.ne_of_gt hg)
  have hz := HZ.out.chg H6.out (Nat.ne_of_gt hgs)
  clear HB HZ H6
  have HB := Lib.hid hb
  have HZ := Lib.hid hz
  clear hb hz
  have hxx := rp_take r s S3 97 122 _ _ rfl rfl hs _ HR.out
  rw [HN5.out] at hxx
  have HXX := Lib.hid hxx
  clear hxx
  go_wp2_with fail
  refine (HXX.out).mono ?_
  rintro e w9 ⟨rfl, hR9, h6⟩
  have hc9 := HC.out.then h6
  clear HR HC
  have HR := Lib.hid hR9
  have HC := Lib.hid hc9
  have H6 := Lib.hid h6
  clear hR9 hc9 h6
  clear HXX
  have hb := HB.out.chg H6.out (Nat.ne_of_gt hg)
  have hz := HZ.out.chg H6.out (Nat.ne_of_gt hgs)
  clear HB HZ H6
  have HB := Lib.hid hb
  have HZ := Lib.hid hz
  clear hb hz
  have z0 := HZ.out.cell 0
  have z1 := HZ.out.cell 1
  have z2 := HZ.out.cell 2
  have z3 := HZ.out.cell 3
  have z4 := HZ.out.cell 4
  simp at z0 z1 z2 z3 z4
  have zf0 := HZ.out.frozen 0
  have zf1 := HZ.out.frozen 1
  have zf2 := HZ.out.frozen 2
  have zf3 := HZ.out.frozen 3
  have zf4 := HZ.out.frozen 4
  go_upto_region 13 with fail
  obtain ⟨w10, hw10⟩ : ∃ w', w' = w9.setCell ⟨gs, 1, none⟩ (bV T2.1) := ⟨_, rfl⟩
  rw [← hw10]
  have hsc : Chg (fun k => k = gs) w9 w10 := by rw [hw10]; exact Chg.seto (Chg.refl _ _)
  have hR3 := HR.out.chg hsc (Nat.ne_of_lt hgs)
  have hc3 := HC.out.setw hw10 hgw2
  have hb3 := HB.out.farw hw10 hgg
  have hz3 := HZ.out.setw hw10
  simp only [List.setIfInBounds_toArray, List.set_cons_zero, List.set_cons_succ] at hz3
  clear HR HC HB HZ hw10
  have HR := Lib.hid hR3
  have HC := Lib.hid hc3
  have HB := Lib.hid hb3
  have HZ := Lib.hid hz3
  clear hR3 hc3 hb3 hz3
  clear z0 z1 z2 z3 z4 zf0 zf1 zf2 zf3 zf4 hsc
  have hRy := HR.out
  obtain ⟨ky, bdy, py, hBy, _⟩ := hRy
  have y1 := hBy.cell 1
  simp at y1
  clear hBy
  cases hb1 : isS s.data.toList 123 123 T2.2 with
  | false =>
    have he := HE.out
    rw [if_neg (by rw [hb1]; decide)] at he
    clear HE
    have HE := Lib.hid he
    clear he
    have hxx := rp_next r s _ 123 123 _ _ rfl rfl _ HR.out
    rw [hb1] at hxx
    have HXX := Lib.hid hxx
    clear hxx
    go_wp2_with fail
    refine (HXX.out).mono ?_
    rintro e w11 ⟨rfl, hR11, h6⟩
    have hc11 := HC.out.then h6
    clear HR HC
    have HR := Lib.hid hR11
    have HC := Lib.hid hc11
    have H6 := Lib.hid h6
    clear hR11 hc11 h6
    clear HXX
    have hb := HB.out.chg H6.out (Nat.ne_of_gt hg)
    have hz := HZ.out.chg H6.out (Nat.ne_of_gt hgs)
    clear HB HZ H6
    have HB := Lib.hid hb
    have HZ := Lib.hid hz
    clear hb hz
    clear hb1 y1
    have z0 := HZ.out.cell 0
    have z1 := HZ.out.cell 1
    have z2 := HZ.out.cell 2
    have z3 := HZ.out.cell 3
    have z4 := HZ.out.cell 4
    simp at z0 z1 z2 z3 z4
    have zf0 := HZ.out.frozen 0
    have zf1 := HZ.out.frozen 1
    have zf2 := HZ.out.frozen 2
    have zf3 := HZ.out.frozen 3
    have zf4 := HZ.out.frozen 4
    have y0 := HB.out.cell 0
    have y1 := HB.out.cell 1
    have y2 := HB.out.cell 2
    have y3 := HB.out.cell 3
    have y4 := HB.out.cell 4
    simp at y0 y1 y2 y3 y4
    have yf0 := HB.out.frozen 0
    have yf1 := HB.out.frozen 1
    have yf2 := HB.out.frozen 2
    have yf3 := HB.out.frozen 3
    have yf4 := HB.out.frozen 4
    go_wp2_with fail
    obtain ⟨wz, hwz⟩ : ∃ wz : World, wz = (((((w11.setCell ⟨g, 0, none⟩ (bV T1.1)).setCell ⟨g, 1, none⟩ (bV T2.1)).setCell ⟨g, 2, none⟩ (.bool b)).setCell ⟨g, 3, none⟩ (.int .i64 1)).setCell ⟨g, 4, none⟩ (.int .i64 1)) := ⟨_, rfl⟩
    have hb9 : Blk wz g 130 #[bV T1.1, bV T2.1, .bool b, .int .i64 1, .int .i64 1] := by
      rw [hwz]
      simpa using ((((HB.out.set_ 0 (bV T1.1)).set_ 1 (bV T2.1)).set_ 2 (.bool b)).set_ 3 (.int .i64 1)).set_ 4 (.int .i64 1)
    have hgc : Chg (fun k => k = g) w11 wz := by rw [hwz]; exact Chg.seto (Chg.seto (Chg.seto (Chg.seto (Chg.seto (Chg.refl _ _)))))
    have hr9 := HR.out.chg hgc (Nat.ne_of_lt hg)
    have hc9 : Chg (fun k => k = r) w wz := by rw [hwz]; have := HC.out; ((repeat (first | with_reducible exact Chg.refl _ _ | with_reducible assumption | with_reducible refine Chg.drewN ?_ _ | with_reducible refine Chg.drew ?_ | with_reducible refine Chg.alloc ?_ _ | with_reducible refine Chg.setCell ?_ (by first | (simp; done) | (simp; omega) | (intro h; simp at h; omega)) _)))
    rw [← hwz]
    have zx0 := hb9.cell 0
    have zx1 := hb9.cell 1
    have zx2 := hb9.cell 2
    have zx3 := hb9.cell 3
    have zx4 := hb9.cell 4
    simp at zx0 zx1 zx2 zx3 zx4
    refine bodyPost_ret (v := .agg #[bV T1.1, bV T2.1, .bool b, .int .i64 1, .int .i64 1]) (by simp [results, Tryz.results41, go_sem, zx0, zx1, zx2, zx3, zx4]) rfl ?_
    rw [HE.out]
    exact ⟨rfl, hr9, hc9⟩
  | true =>
    have he := HE.out
    rw [if_pos hb1] at he
    clear HE
    have HE := Lib.hid he
    clear he
    have hxx := rp_next r s _ 123 123 _ _ rfl rfl _ HR.out
    rw [hb1] at hxx
    have HXX := Lib.hid hxx
    clear hxx
    go_wp2_with fail
    refine (HXX.out).mono ?_
    rintro e w11 ⟨rfl, hR11, h6⟩
    have hc11 := HC.out.then h6
    clear HR HC
    have HR := Lib.hid hR11
    have HC := Lib.hid hc11
    have H6 := Lib.hid h6
    clear hR11 hc11 h6
    clear HXX
    have hb := HB.out.chg H6.out (Nat.ne_of_gt hg)
    have hz := HZ.out.chg H6.out (Nat.ne_of_gt hgs)
    clear HB HZ H6
    have HB := Lib.hid hb
    have HZ := Lib.hid hz
    clear hb hz
    clear hb1 y1
    go_wp2_with fail
    refine (rp_take r s _ 123 123 _ _ rfl rfl hs _ HR.out).mono ?_
    rintro e w12 ⟨rfl, hR12, h6⟩
    have hc12 := HC.out.then h6
    clear HR HC
    have HR := Lib.hid hR12
    have HC := Lib.hid hc12
    have H6 := Lib.hid h6
    clear hR12 hc12 h6
    have hb := HB.out.chg H6.out (Nat.ne_of_gt hg)
    have hz := HZ.out.chg H6.out (Nat.ne_of_gt hgs)
    clear HB HZ H6
    have HB := Lib.hid hb
    have HZ := Lib.hid hz
    clear hb hz
    have z0 := HZ.out.cell 0
    have z1 := HZ.out.cell 1
    have z2 := HZ.out.cell 2
    have z3 := HZ.out.cell 3
    have z4 := HZ.out.cell 4
    simp at z0 z1 z2 z3 z4
    cases b with
    | true =>
      have he := HE.out
      rw [if_pos rfl] at he
      clear HE
      have HE := Lib.hid he
      clear he
      go_wp2_with fail
      refine (rp_fail r s _ _ 22 (by decide) _ HR.out).mono ?_
      rintro e w13 ⟨rfl, hR13, h6⟩
      have hc13 := HC.out.then h6
      clear HR HC
      have HR := Lib.hid hR13
      have HC := Lib.hid hc13
      have H6 := Lib.hid h6
      clear hR13 hc13 h6
      have hb := HB.out.chg H6.out (Nat.ne_of_gt hg)
      have hz := HZ.out.chg H6.out (Nat.ne_of_gt hgs)
      clear HB HZ H6
      have HB := Lib.hid hb
      have HZ := Lib.hid hz
      clear hb hz
      clear z0 z1 z2 z3 z4
      have z0 := HZ.out.cell 0
      have z1 := HZ.out.cell 1
      have z2 := HZ.out.cell 2
      have z3 := HZ.out.cell 3
      have z4 := HZ.out.cell 4
      simp at z0 z1 z2 z3 z4
      have zf0 := HZ.out.frozen 0
      have zf1 := HZ.out.frozen 1
      have zf2 := HZ.out.frozen 2
      have zf3 := HZ.out.frozen 3
      have zf4 := HZ.out.frozen 4
      have y0 := HB.out.cell 0
      have y1 := HB.out.cell 1
      have y2 := HB.out.cell 2
      have y3 := HB.out.cell 3
      have y4 := HB.out.cell 4
      simp at y0 y1 y2 y3 y4
      have yf0 := HB.out.frozen 0
      have yf1 := HB.out.frozen 1
      have yf2 := HB.out.frozen 2
      have yf3 := HB.out.frozen 3
      have yf4 := HB.out.frozen 4
      go_wp2_with fail
      obtain ⟨wz, hwz⟩ : ∃ wz : World, wz = (((((w13.setCell ⟨g, 0, none⟩ (bV T1.1)).setCell ⟨g, 1, none⟩ (bV T2.1)).setCell ⟨g, 2, none⟩ (.bool true)).setCell ⟨g, 3, none⟩ (.int .i64 1)).setCell ⟨g, 4, none⟩ (.int .i64 1)) := ⟨_, rfl⟩
      have hb9 : Blk wz g 130 #[bV T1.1, bV T2.1, .bool true, .int .i64 1, .int .i64 1] := by
        rw [hwz]
        simpa using ((((HB.out.set_ 0 (bV T1.1)).set_ 1 (bV T2.1)).set_ 2 (.bool true)).set_ 3 (.int .i64 1)).set_ 4 (.int .i64 1)
      have hgc : Chg (fun k => k = g) w13 wz := by rw [hwz]; exact Chg.seto (Chg.seto (Chg.seto (Chg.seto (Chg.seto (Chg.refl _ _)))))
      have hr9 := HR.out.chg hgc (Nat.ne_of_lt hg)
      have hc9 : Chg (fun k => k = r) w wz := by rw [hwz]; have := HC.out; ((repeat (first | with_reducible exact Chg.refl _ _ | with_reducible assumption | with_reducible refine Chg.drewN ?_ _ | with_reducible refine Chg.drew ?_ | with_reducible refine Chg.alloc ?_ _ | with_reducible refine Chg.setCell ?_ (by first | (simp; done) | (simp; omega) | (intro h; simp at h; omega)) _)))
      rw [← hwz]
      have zx0 := hb9.cell 0
      have zx1 := hb9.cell 1
      have zx2 := hb9.cell 2
      have zx3 := hb9.cell 3
      have zx4 := hb9.cell 4
      simp at zx0 zx1 zx2 zx3 zx4
      refine bodyPost_ret (v := .agg #[bV T1.1, bV T2.1, .bool true, .int .i64 1, .int .i64 1]) (by simp [results, Tryz.results41, go_sem, zx0, zx1, zx2, zx3, zx4]) rfl ?_
      rw [HE.out]
      exact ⟨rfl, hr9, hc9⟩
    | false =>
      have he := HE.out
      rw [if_neg (by decide)] at he
      unfold boundsS at he
      dsimp only at he
      obtain ⟨A, ha⟩ : ∃ x, numberS s.data.toList 48 (takeS s.data.toList 123 123 T2.2).2 = x := ⟨_, rfl⟩
      obtain ⟨B, hB⟩ : ∃ x, numberS s.data.toList 48 (takeS s.data.toList 44 44 A.2).2 = x := ⟨_, rfl⟩
      rw [ha, hB] at he
      clear HE
      have HE := Lib.hid he
      have HA := Lib.hid ha
      have HBN := Lib.hid hB
      clear he ha hB
      have hxx := rp_number r s _ 48 48 rfl (by decide) hs _ HR.out
      rw [HA.out] at hxx
      have HXX := Lib.hid hxx
      clear hxx
      go_wp2_with fail
      refine (HXX.out).mono ?_
      rintro e w13 ⟨rfl, hR13, h6⟩
      have hc13 := HC.out.then h6
      clear HR HC
      have HR := Lib.hid hR13
      have HC := Lib.hid hc13
      have H6 := Lib.hid h6
      clear hR13 hc13 h6
      clear HXX
      clear z0 z1 z2 z3 z4
      have hb := HB.out.chg H6.out (Nat.ne_of_gt hg)
      have hz := HZ.out.chg H6.out (Nat.ne_of_gt hgs)
      clear HB HZ H6
      have HB := Lib.hid hb
      have HZ := Lib.hid hz
      clear hb hz
      go_wp2_with fail
      refine (rp_take r s A.2 44 44 _ _ rfl rfl hs _ HR.out).mono ?_
      rintro e w14 ⟨rfl, hR14, h6⟩
      have hc14 := HC.out.then h6
      clear HR HC
      have HR := Lib.hid hR14
      have HC := Lib.hid hc14
      have H6 := Lib.hid h6
      clear hR14 hc14 h6
      have hb := HB.out.chg H6.out (Nat.ne_of_gt hg)
      have hz := HZ.out.chg H6.out (Nat.ne_of_gt hgs)
      clear HB HZ H6
      have HB := Lib.hid hb
      have HZ := Lib.hid hz
      clear hb hz
      have hxx := rp_number r s _ 48 48 rfl (by decide) hs _ HR.out
      rw [HBN.out] at hxx
      have HXX := Lib.hid hxx
      clear hxx
      go_wp2_with fail
      refine (HXX.out).mono ?_
      rintro e w15 ⟨rfl, hR15, h6⟩
      have hc15 := HC.out.then h6
      clear HR HC
      have HR := Lib.hid hR15
      have HC := Lib.hid hc15
      have H6 := Lib.hid h6
      clear hR15 hc15 h6
      clear HXX
      have hb := HB.out.chg H6.out (Nat.ne_of_gt hg)
      have hz := HZ.out.chg H6.out (Nat.ne_of_gt hgs)
      clear HB HZ H6
      have HB := Lib.hid hb
      have HZ := Lib.hid hz
      clear hb hz
      go_wp2_with fail
      refine (rp_take r s B.2 125 125 _ _ rfl rfl hs _ HR.out).mono ?_
      rintro e w16 ⟨rfl, hR16, h6⟩
      have hc16 := HC.out.then h6
      clear HR HC
      have HR := Lib.hid hR16
      have HC := Lib.hid hc16
      have H6 := Lib.hid h6
      clear hR16 hc16 h6
      have hb := HB.out.chg H6.out (Nat.ne_of_gt hg)
      have hz := HZ.out.chg H6.out (Nat.ne_of_gt hgs)
      clear HB HZ H6
      have HB := Lib.hid hb
      have HZ := Lib.hid hz
      clear hb hz
      by_cases hb1 : A.1 < 1 ∨ B.1 < A.1 ∨ B.1 > 4 ∨ B.1 < 2
      · have he := HE.out
        rw [if_pos hb1] at he
        clear HE
        have HE := Lib.hid he
        clear he
        have hq : decide (A.1 < 1) = true ∨ (decide (A.1 < 1) = false ∧ decide (B.1 < A.1) = true) ∨ (decide (A.1 < 1) = false ∧ decide (B.1 < A.1) = false ∧ decide (B.1 > 4) = true) ∨ (decide (A.1 < 1) = false ∧ decide (B.1 < A.1) = false ∧ decide (B.1 > 4) = false ∧ decide (B.1 < 2) = true) := by
          simp only [decide_eq_true_eq, decide_eq_false_iff_not]
          omega
        clear hb1
        rcases hq with q1 | ⟨q1, q2⟩ | ⟨q1, q2, q3⟩ | ⟨q1, q2, q3, q4⟩
        all_goals
          go_wp2_with fail
          refine (rp_fail r s _ _ 22 (by decide) _ HR.out).mono ?_
          rintro e w17 ⟨rfl, hR17, h6⟩
          have hc17 := HC.out.then h6
          clear HR HC
          have HR := Lib.hid hR17
          have HC := Lib.hid hc17
          have H6 := Lib.hid h6
          clear hR17 hc17 h6
          have hb := HB.out.chg H6.out (Nat.ne_of_gt hg)
          have hz := HZ.out.chg H6.out (Nat.ne_of_gt hgs)
          clear HB HZ H6
          have HB := Lib.hid hb
          have HZ := Lib.hid hz
          clear hb hz
          have z0 := HZ.out.cell 0
          have z1 := HZ.out.cell 1
          have z2 := HZ.out.cell 2
          have z3 := HZ.out.cell 3
          have z4 := HZ.out.cell 4
          simp at z0 z1 z2 z3 z4
          have zf0 := HZ.out.frozen 0
          have zf1 := HZ.out.frozen 1
          have zf2 := HZ.out.frozen 2
          have zf3 := HZ.out.frozen 3
          have zf4 := HZ.out.frozen 4
          have y0 := HB.out.cell 0
          have y1 := HB.out.cell 1
          have y2 := HB.out.cell 2
          have y3 := HB.out.cell 3
          have y4 := HB.out.cell 4
          simp at y0 y1 y2 y3 y4
          have yf0 := HB.out.frozen 0
          have yf1 := HB.out.frozen 1
          have yf2 := HB.out.frozen 2
          have yf3 := HB.out.frozen 3
          have yf4 := HB.out.frozen 4
          go_wp2_with fail
          obtain ⟨wz, hwz⟩ : ∃ wz : World, wz = (((((w17.setCell ⟨g, 0, none⟩ (bV T1.1)).setCell ⟨g, 1, none⟩ (bV T2.1)).setCell ⟨g, 2, none⟩ (.bool false)).setCell ⟨g, 3, none⟩ (.int .i64 1)).setCell ⟨g, 4, none⟩ (.int .i64 1)) := ⟨_, rfl⟩
          have hb9 : Blk wz g 130 #[bV T1.1, bV T2.1, .bool false, .int .i64 1, .int .i64 1] := by
            rw [hwz]
            simpa using ((((HB.out.set_ 0 (bV T1.1)).set_ 1 (bV T2.1)).set_ 2 (.bool false)).set_ 3 (.int .i64 1)).set_ 4 (.int .i64 1)
          have hgc : Chg (fun k => k = g) w17 wz := by rw [hwz]; exact Chg.seto (Chg.seto (Chg.seto (Chg.seto (Chg.seto (Chg.refl _ _)))))
          have hr9 := HR.out.chg hgc (Nat.ne_of_lt hg)
          have hc9 : Chg (fun k => k = r) w wz := by rw [hwz]; have := HC.out; ((repeat (first | with_reducible exact Chg.refl _ _ | with_reducible assumption | with_reducible refine Chg.drewN ?_ _ | with_reducible refine Chg.drew ?_ | with_reducible refine Chg.alloc ?_ _ | with_reducible refine Chg.setCell ?_ (by first | (simp; done) | (simp; omega) | (intro h; simp at h; omega)) _)))
          rw [← hwz]
          have zx0 := hb9.cell 0
          have zx1 := hb9.cell 1
          have zx2 := hb9.cell 2
          have zx3 := hb9.cell 3
          have zx4 := hb9.cell 4
          simp at zx0 zx1 zx2 zx3 zx4
          refine bodyPost_ret (v := .agg #[bV T1.1, bV T2.1, .bool false, .int .i64 1, .int .i64 1]) (by simp [results, Tryz.results41, go_sem, zx0, zx1, zx2, zx3, zx4]) rfl ?_
          rw [HE.out]
          exact ⟨rfl, hr9, hc9⟩
      · have he := HE.out
        rw [if_neg hb1] at he
        clear HE
        have HE := Lib.hid he
        clear he
        have q1 : decide (A.1 < 1) = false := by simp; omega
        have q2 : decide (B.1 < A.1) = false := by simp; omega
        have q3 : decide (B.1 > 4) = false := by simp; omega
        have q4 : decide (B.1 < 2) = false := by simp; omega
        clear hb1
        have z0 := HZ.out.cell 0
        have z1 := HZ.out.cell 1
        have z2 := HZ.out.cell 2
        have z3 := HZ.out.cell 3
        have z4 := HZ.out.cell 4
        simp at z0 z1 z2 z3 z4
        have zf0 := HZ.out.frozen 0
        have zf1 := HZ.out.frozen 1
        have zf2 := HZ.out.frozen 2
        have zf3 := HZ.out.frozen 3
        have zf4 := HZ.out.frozen 4
        go_upto_region 30 with fail
        obtain ⟨w17, hw17⟩ : ∃ w', w' = w16.setCell ⟨gs, 3, none⟩ (.int .i64 A.1) := ⟨_, rfl⟩
        rw [← hw17]
        have hsc : Chg (fun k => k = gs) w16 w17 := by rw [hw17]; exact Chg.seto (Chg.refl _ _)
        have hR3 := HR.out.chg hsc (Nat.ne_of_lt hgs)
        have hc3 := HC.out.setw hw17 hgw2
        have hb3 := HB.out.farw hw17 hgg
        have hz3 := HZ.out.setw hw17
        simp only [List.setIfInBounds_toArray, List.set_cons_zero, List.set_cons_succ] at hz3
        clear HR HC HB HZ hw17
        have HR := Lib.hid hR3
        have HC := Lib.hid hc3
        have HB := Lib.hid hb3
        have HZ := Lib.hid hz3
        clear hR3 hc3 hb3 hz3
        obtain ⟨w18, hw18⟩ : ∃ w', w' = w17.setCell ⟨gs, 4, none⟩ (.int .i64 B.1) := ⟨_, rfl⟩
        rw [← hw18]
        have hsc : Chg (fun k => k = gs) w17 w18 := by rw [hw18]; exact Chg.seto (Chg.refl _ _)
        have hR3 := HR.out.chg hsc (Nat.ne_of_lt hgs)
        have hc3 := HC.out.setw hw18 hgw2
        have hb3 := HB.out.farw hw18 hgg
        have hz3 := HZ.out.setw hw18
        simp only [List.setIfInBounds_toArray, List.set_cons_zero, List.set_cons_succ] at hz3
        clear HR HC HB HZ hw18
        have HR := Lib.hid hR3
        have HC := Lib.hid hc3
        have HB := Lib.hid hb3
        have HZ := Lib.hid hz3
        clear hR3 hc3 hb3 hz3
        clear z0 z1 z2 z3 z4 zf0 zf1 zf2 zf3 zf4 hsc
        have z0 := HZ.out.cell 0
        have z1 := HZ.out.cell 1
        have z2 := HZ.out.cell 2
        have z3 := HZ.out.cell 3
        have z4 := HZ.out.cell 4
        simp at z0 z1 z2 z3 z4
        have zf0 := HZ.out.frozen 0
        have zf1 := HZ.out.frozen 1
        have zf2 := HZ.out.frozen 2
        have zf3 := HZ.out.frozen 3
        have zf4 := HZ.out.frozen 4
        have y0 := HB.out.cell 0
        have y1 := HB.out.cell 1
        have y2 := HB.out.cell 2
        have y3 := HB.out.cell 3
        have y4 := HB.out.cell 4
        simp at y0 y1 y2 y3 y4
        have yf0 := HB.out.frozen 0
        have yf1 := HB.out.frozen 1
        have yf2 := HB.out.frozen 2
        have yf3 := HB.out.frozen 3
        have yf4 := HB.out.frozen 4
        go_wp2_with fail
        obtain ⟨wz, hwz⟩ : ∃ wz : World, wz = (((((w18.setCell ⟨g, 0, none⟩ (bV T1.1)).setCell ⟨g, 1, none⟩ (bV T2.1)).setCell ⟨g, 2, none⟩ (.bool false)).setCell ⟨g, 3, none⟩ (.int .i64 A.1)).setCell ⟨g, 4, none⟩ (.int .i64 B.1)) := ⟨_, rfl⟩
        have hb9 : Blk wz g 130 #[bV T1.1, bV T2.1, .bool false, .int .i64 A.1, .int .i64 B.1] := by
          rw [hwz]
          simpa using ((((HB.out.set_ 0 (bV T1.1)).set_ 1 (bV T2.1)).set_ 2 (.bool false)).set_ 3 (.int .i64 A.1)).set_ 4 (.int .i64 B.1)
        have hgc : Chg (fun k => k = g) w18 wz := by rw [hwz]; exact Chg.seto (Chg.seto (Chg.seto (Chg.seto (Chg.seto (Chg.refl _ _)))))
        have hr9 := HR.out.chg hgc (Nat.ne_of_lt hg)
        have hc9 : Chg (fun k => k = r) w wz := by rw [hwz]; have := HC.out; ((repeat (first | with_reducible exact Chg.refl _ _ | with_reducible assumption | with_reducible refine Chg.drewN ?_ _ | with_reducible refine Chg.drew ?_ | with_reducible refine Chg.alloc ?_ _ | with_reducible refine Chg.setCell ?_ (by first | (simp; done) | (simp; omega) | (intro h; simp at h; omega)) _)))
        rw [← hwz]
        have zx0 := hb9.cell 0
        have zx1 := hb9.cell 1
        have zx2 := hb9.cell 2
        have zx3 := hb9.cell 3
        have zx4 := hb9.cell 4
        simp at zx0 zx1 zx2 zx3 zx4
        refine bodyPost_ret (v := .agg #[bV T1.1, bV T2.1, .bool false, .int .i64 A.1, .int .i64 B.1]) (by simp [results, Tryz.results41, go_sem, zx0, zx1, zx2, zx3, zx4]) rfl ?_
        rw [HE.out]
        exact ⟨rfl, hr9, hc9⟩
end Go.Proofs.YtjloddlkleileaaGreatDoor
