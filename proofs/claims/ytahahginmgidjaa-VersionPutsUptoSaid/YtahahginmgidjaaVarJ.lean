/-
  The document's reader: number, below, words.
-/
import Derived.Test.YtahahginmgidjaaVarI
namespace Go.Proofs.Ytahahginmgidjaa
open Go.RowKit
set_option linter.unusedVariables false
set_option linter.unusedSimpArgs false

/-- The document's reader of block r: at a place of the bytes s, or behind an error. -/
def RdB (w : World) (r : Nat) (s : ByteArray) : Nat ⊕ Int → Prop
  | .inl k => k ≤ s.size ∧ Blk w r 61 #[.string s, .int .i64 (k : Int), .int .i64 0]
  | .inr c => c ≠ 0 ∧ ∃ k : Nat, Blk w r 61 #[.string s, .int .i64 (k : Int), .int .i64 c]
def nextN (s : List UInt8) : Nat ⊕ Int → Int × (Nat ⊕ Int)
  | .inl k => match getV s k with
    | .inl (n, j) => (n, .inl j)
    | .inr c => (0, .inr c)
  | .inr c => (0, .inr c)
def nextB (s : List UInt8) (most : Int) : Nat ⊕ Int → Int × (Nat ⊕ Int)
  | .inl k => match belowV s k most with
    | .inl (n, j) => (n, .inl j)
    | .inr c => (0, .inr c)
  | .inr c => (0, .inr c)
def nextT (s : List UInt8) : Nat ⊕ Int → List UInt8 × (Nat ⊕ Int)
  | .inl k => match textV s k with
    | .inl (n, j) => (n, .inl j)
    | .inr c => ([], .inr c)
  | .inr c => ([], .inr c)
theorem textV_err {s : List UInt8} {k : Nat} {c : Int} (h : textV s k = .inr c) : c ≠ 0 := by
  unfold textV at h
  split at h
  · rename_i c' hg'
    injection h with h
    subst h
    rcases getV_err hg' with rfl | rfl <;> decide
  · split at h
    · injection h with h; subst h; decide
    · split at h
      · injection h with h; subst h; decide
      · split at h
        · injection h with h; subst h; decide
        · cases h
set_option maxRecDepth 100000 in
set_option maxHeartbeats 2000000 in
theorem rv_number (r : Nat) (s : ByteArray) (st : Nat ⊕ Int) (hs : s.size ≤ 281474976710656) (w : World) (hR : RdB w r s st) : Calls Try.prog 15 #[.pointer (some ⟨r, 0, none⟩)] w fun e w' =>
    e = .returned (.int .i64 (nextN s.data.toList st).1) ∧ RdB w' r s (nextN s.data.toList st).2 ∧ Chg (fun k => k = r) w w' := by
  cases st with
  | inr c =>
    obtain ⟨hc0, k, hB⟩ := hR
    have y2 := hB.cell 2
    simp at y2
    have HB := Lib.hid hB
    have HC0 := Lib.hid hc0
    have hq : (c != 0) = true := by simpa using hc0
    have hq2 : (c == 0) = false := by simpa using hc0
    clear hB hc0
    go_enter Try.func15, Try.ntmps15
    go_wp2_with fail
    go_ret
    exact ⟨rfl, ⟨HC0.out, k, HB.out⟩, Chg.refl _ _⟩
  | inl k =>
    have hc0 : k ≤ s.size := hR.1
    have hB := hR.2
    have y0 := hB.cell 0
    have y1 := hB.cell 1
    have y2 := hB.cell 2
    simp at y0 y1 y2
    have HB := Lib.hid hB
    clear hR hB
    have hg := fun W => r1_get s k hc0 hs W
    cases hv : getV s.data.toList k with
    | inl x =>
      obtain ⟨n, j⟩ := x
      have hj := (getV_le (by rw [bs_len]; exact hc0) hv).2
      rw [bs_len] at hj
      have hg2 : ∀ W, Calls Try.prog 29 #[.string s, .int .i64 (k : Int)] W fun e w' => e = .returned (.tuple #[.int .i64 n, .int .i64 (j : Int), .int .i64 0]) ∧ W = w' := fun W => (hg W).mono fun e w' ⟨h1, h2⟩ => by
        unfold GetAt at h1
        rw [hv] at h1
        exact ⟨h1, h2⟩
      have hn : nextN s.data.toList (.inl k) = (n, .inl j) := by simp only [nextN, hv]
      rw [hn]
      have HG := Lib.hid hg2
      clear hg hg2 hv hn
      go_enter Try.func15, Try.ntmps15
      go_wp2_with fail
      go_quiet ((go_at_call 29; refine quiet_same (HG.out _)))
      obtain ⟨wm, hwm⟩ : ∃ wm, wm = w.drewN nq := ⟨_, rfl⟩
      have hBm : Blk wm r 61 #[.string s, .int .i64 (k : Int), .int .i64 0] := by rw [hwm]; exact HB.out.drewN nq
      have hcm : Chg (fun k => k = r) w wm := by rw [hwm]; exact (Chg.refl _ _).drewN nq
      rw [← hwm]
      have y0 := hBm.cell 0
      have y1 := hBm.cell 1
      have y2 := hBm.cell 2
      have f1 := hBm.frozen 1
      have f2 := hBm.frozen 2
      have hrl := hBm.lt
      simp at y0 y1 y2
      have HBM := Lib.hid hBm
      have HCM := Lib.hid hcm
      clear hBm hcm hwm
      go_wp2_with fail
      go_ret
      refine ⟨rfl, ⟨by omega, ?_⟩, by have := HCM.out; ((repeat (first | with_reducible exact Chg.refl _ _ | with_reducible assumption | with_reducible refine Chg.drewN ?_ _ | with_reducible refine Chg.drew ?_ | with_reducible refine Chg.alloc ?_ _ | with_reducible refine Chg.setCell ?_ (by first | (simp; done) | (simp; omega) | (intro h; simp at h; omega)) _)))⟩
      have := (HBM.out.set_ 2 (.int .i64 0)).set_ 1 (.int .i64 (j : Int))
      simpa using this
    | inr c =>
      have hg2 : ∀ W, Calls Try.prog 29 #[.string s, .int .i64 (k : Int)] W fun e w' => e = .returned (.tuple #[.int .i64 0, .int .i64 0, .int .i64 c]) ∧ W = w' := fun W => (hg W).mono fun e w' ⟨h1, h2⟩ => by
        unfold GetAt at h1
        rw [hv] at h1
        exact ⟨h1, h2⟩
      have hn : nextN s.data.toList (.inl k) = (0, .inr c) := by simp only [nextN, hv]
      rw [hn]
      have hce : c ≠ 0 := by rcases getV_err hv with rfl | rfl <;> decide
      have hq2 : (c == 0) = false := by simpa using hce
      have HC0 := Lib.hid hce
      have HG := Lib.hid hg2
      clear hg hg2 hv hn hce
      go_enter Try.func15, Try.ntmps15
      go_wp2_with fail
      go_quiet ((go_at_call 29; refine quiet_same (HG.out _)))
      obtain ⟨wm, hwm⟩ : ∃ wm, wm = w.drewN nq := ⟨_, rfl⟩
      have hBm : Blk wm r 61 #[.string s, .int .i64 (k : Int), .int .i64 0] := by rw [hwm]; exact HB.out.drewN nq
      have hcm : Chg (fun k => k = r) w wm := by rw [hwm]; exact (Chg.refl _ _).drewN nq
      rw [← hwm]
      have y0 := hBm.cell 0
      have y1 := hBm.cell 1
      have y2 := hBm.cell 2
      have f1 := hBm.frozen 1
      have f2 := hBm.frozen 2
      have hrl := hBm.lt
      simp at y0 y1 y2
      have HBM := Lib.hid hBm
      have HCM := Lib.hid hcm
      clear hBm hcm hwm
      go_wp2_with fail
      go_ret
      refine ⟨rfl, ⟨HC0.out, k, ?_⟩, by have := HCM.out; ((repeat (first | with_reducible exact Chg.refl _ _ | with_reducible assumption | with_reducible refine Chg.drewN ?_ _ | with_reducible refine Chg.drew ?_ | with_reducible refine Chg.alloc ?_ _ | with_reducible refine Chg.setCell ?_ (by first | (simp; done) | (simp; omega) | (intro h; simp at h; omega)) _)))⟩
      have := HBM.out.set_ 2 (.int .i64 c)
      simpa using this
set_option maxRecDepth 100000 in
set_option maxHeartbeats 2000000 in
theorem rv_words (r : Nat) (s : ByteArray) (st : Nat ⊕ Int) (hs : s.size ≤ 281474976710656) (w : World) (hR : RdB w r s st) : Calls Try.prog 17 #[.pointer (some ⟨r, 0, none⟩)] w fun e w' =>
    e = .returned (.string ⟨(nextT s.data.toList st).1.toArray⟩) ∧ RdB w' r s (nextT s.data.toList st).2 ∧ Chg (fun k => k = r) w w' := by
  cases st with
  | inr c =>
    obtain ⟨hc0, k, hB⟩ := hR
    have y2 := hB.cell 2
    simp at y2
    have HB := Lib.hid hB
    have HC0 := Lib.hid hc0
    have hq : (c != 0) = true := by simpa using hc0
    have hq2 : (c == 0) = false := by simpa using hc0
    clear hB hc0
    go_enter Try.func17, Try.ntmps17
    go_wp2_with fail
    go_ret
    exact ⟨rfl, ⟨HC0.out, k, HB.out⟩, Chg.refl _ _⟩
  | inl k =>
    have hc0 : k ≤ s.size := hR.1
    have hB := hR.2
    have y0 := hB.cell 0
    have y1 := hB.cell 1
    have y2 := hB.cell 2
    simp at y0 y1 y2
    have HB := Lib.hid hB
    clear hR hB
    have hg := fun W => r1_gettext s k hc0 hs W
    cases hv : textV s.data.toList k with
    | inl x =>
      obtain ⟨t, j⟩ := x
      have hj := (textV_le (by rw [bs_len]; exact hc0) hv).2.1
      rw [bs_len] at hj
      have hg2 : ∀ W, Calls Try.prog 30 #[.string s, .int .i64 (k : Int)] W fun e w' => e = .returned (.tuple #[.string ⟨t.toArray⟩, .int .i64 (j : Int), .int .i64 0]) ∧ W = w' := fun W => (hg W).mono fun e w' ⟨h1, h2⟩ => by
        unfold TextAt at h1
        rw [hv] at h1
        exact ⟨h1, h2⟩
      have hn : nextT s.data.toList (.inl k) = (t, .inl j) := by simp only [nextT, hv]
      rw [hn]
      have HG := Lib.hid hg2
      clear hg hg2 hv hn
      go_enter Try.func17, Try.ntmps17
      go_wp2_with fail
      go_quiet ((go_at_call 30; refine quiet_same (HG.out _)))
      obtain ⟨wm, hwm⟩ : ∃ wm, wm = w.drewN nq := ⟨_, rfl⟩
      have hBm : Blk wm r 61 #[.string s, .int .i64 (k : Int), .int .i64 0] := by rw [hwm]; exact HB.out.drewN nq
      have hcm : Chg (fun k => k = r) w wm := by rw [hwm]; exact (Chg.refl _ _).drewN nq
      rw [← hwm]
      have y0 := hBm.cell 0
      have y1 := hBm.cell 1
      have y2 := hBm.cell 2
      have f1 := hBm.frozen 1
      have f2 := hBm.frozen 2
      have hrl := hBm.lt
      simp at y0 y1 y2
      have HBM := Lib.hid hBm
      have HCM := Lib.hid hcm
      clear hBm hcm hwm
      go_wp2_with fail
      go_ret
      refine ⟨rfl, ⟨by omega, ?_⟩, by have := HCM.out; ((repeat (first | with_reducible exact Chg.refl _ _ | with_reducible assumption | with_reducible refine Chg.drewN ?_ _ | with_reducible refine Chg.drew ?_ | with_reducible refine Chg.alloc ?_ _ | with_reducible refine Chg.setCell ?_ (by first | (simp; done) | (simp; omega) | (intro h; simp at h; omega)) _)))⟩
      have := (HBM.out.set_ 2 (.int .i64 0)).set_ 1 (.int .i64 (j : Int))
      simpa using this
    | inr c =>
      have hg2 : ∀ W, Calls Try.prog 30 #[.string s, .int .i64 (k : Int)] W fun e w' => e = .returned (.tuple #[.string ⟨#[]⟩, .int .i64 0, .int .i64 c]) ∧ W = w' := fun W => (hg W).mono fun e w' ⟨h1, h2⟩ => by
        unfold TextAt at h1
        rw [hv] at h1
        exact ⟨h1, h2⟩
      have hn : nextT s.data.toList (.inl k) = ([], .inr c) := by simp only [nextT, hv]
      rw [hn]
      have hce : c ≠ 0 := textV_err hv
      have hq2 : (c == 0) = false := by simpa using hce
      have HC0 := Lib.hid hce
      have HG := Lib.hid hg2
      clear hg hg2 hv hn hce
      go_enter Try.func17, Try.ntmps17
      go_wp2_with fail
      go_quiet ((go_at_call 30; refine quiet_same (HG.out _)))
      obtain ⟨wm, hwm⟩ : ∃ wm, wm = w.drewN nq := ⟨_, rfl⟩
      have hBm : Blk wm r 61 #[.string s, .int .i64 (k : Int), .int .i64 0] := by rw [hwm]; exact HB.out.drewN nq
      have hcm : Chg (fun k => k = r) w wm := by rw [hwm]; exact (Chg.refl _ _).drewN nq
      rw [← hwm]
      have y0 := hBm.cell 0
      have y1 := hBm.cell 1
      have y2 := hBm.cell 2
      have f1 := hBm.frozen 1
      have f2 := hBm.frozen 2
      have hrl := hBm.lt
      simp at y0 y1 y2
      have HBM := Lib.hid hBm
      have HCM := Lib.hid hcm
      clear hBm hcm hwm
      go_wp2_with fail
      go_ret
      refine ⟨rfl, ⟨HC0.out, k, ?_⟩, by have := HCM.out; ((repeat (first | with_reducible exact Chg.refl _ _ | with_reducible assumption | with_reducible refine Chg.drewN ?_ _ | with_reducible refine Chg.drew ?_ | with_reducible refine Chg.alloc ?_ _ | with_reducible refine Chg.setCell ?_ (by first | (simp; done) | (simp; omega) | (intro h; simp at h; omega)) _)))⟩
      have := HBM.out.set_ 2 (.int .i64 c)
      simpa using this
set_option maxRecDepth 100000 in
set_option maxHeartbeats 2000000 in
theorem rv_below (r : Nat) (s : ByteArray) (st : Nat ⊕ Int) (most : Int) (hs : s.size ≤ 281474976710656) (w : World) (hR : RdB w r s st) : Calls Try.prog 16 #[.pointer (some ⟨r, 0, none⟩), .int .i64 most] w fun e w' =>
    e = .returned (.int .i64 (nextB s.data.toList most st).1) ∧ RdB w' r s (nextB s.data.toList most st).2 ∧ Chg (fun k => k = r) w w' := by
  have hn := rv_number r s st hs w hR
  have HN := Lib.hid hn
  clear hn
  -- behind an error nothing is read
  have bad : ∀ c : Int, (nextN s.data.toList st) = (0, .inr c) → (nextB s.data.toList most st) = (0, .inr c) → Calls Try.prog 16 #[.pointer (some ⟨r, 0, none⟩), .int .i64 most] w fun e w' =>
      e = .returned (.int .i64 (nextB s.data.toList most st).1) ∧ RdB w' r s (nextB s.data.toList most st).2 ∧ Chg (fun k => k = r) w w' := fun c h1 h2 => by
    rw [h2]
    rw [h1] at HN
    clear h1 h2 hR
    go_enter Try.func16, Try.ntmps16
    go_wp2_with fail
    refine HN.out.mono ?_
    rintro e w1 ⟨rfl, hR, hc1⟩
    obtain ⟨hc0, k, hB⟩ := hR
    have y2 := hB.cell 2
    simp at y2
    have HB := Lib.hid hB
    have HC0 := Lib.hid hc0
    have hq : (c != 0) = true := by simpa using hc0
    have hq2 : (c == 0) = false := by simpa using hc0
    clear hB hc0
    have HC1 := Lib.hid hc1
    clear hc1
    go_wp2_with fail
    go_ret
    exact ⟨rfl, ⟨HC0.out, k, HB.out⟩, HC1.out⟩
  cases st with
  | inr c => exact bad c rfl rfl
  | inl k =>
    cases hv : getV s.data.toList k with
    | inr c => exact bad c (by simp only [nextN, hv]) (by simp only [nextB, belowV, hv])
    | inl x =>
      clear bad
      obtain ⟨n, j⟩ := x
      have h1 : nextN s.data.toList (.inl k) = (n, .inl j) := by simp only [nextN, hv]
      rw [h1] at HN
      by_cases hb : n < 0 ∨ n ≥ most
      · have h2 : nextB s.data.toList most (.inl k) = (0, .inr 4) := by simp only [nextB, belowV, hv]; rw [if_pos hb]
        rw [h2]
        have hd : (decide (n < 0) = true) ∨ (decide (n < 0) = false ∧ decide (n ≥ most) = true) := by
          rcases hb with h | h
          · exact .inl (decide_eq_true h)
          · by_cases h1 : n < 0
            · exact .inl (decide_eq_true h1)
            · exact .inr ⟨decide_eq_false h1, decide_eq_true h⟩
        clear hb h1 h2 hv hR
        rcases hd with hd | ⟨hd, hd2⟩
        all_goals
          go_enter Try.func16, Try.ntmps16
          go_wp2_with fail
          refine HN.out.mono ?_
          rintro e w1 ⟨rfl, hR, hc1⟩
          have hB := hR.2
          have y2 := hB.cell 2
          have f2 := hB.frozen 2
          have hrl := hB.lt
          simp at y2
          have HB := Lib.hid hB
          have HC1 := Lib.hid hc1
          clear hc1 hR hB
          go_wp2_with fail
          go_ret
          refine ⟨rfl, ⟨by decide, j, ?_⟩, by have := HC1.out; ((repeat (first | with_reducible exact Chg.refl _ _ | with_reducible assumption | with_reducible refine Chg.drewN ?_ _ | with_reducible refine Chg.drew ?_ | with_reducible refine Chg.alloc ?_ _ | with_reducible refine Chg.setCell ?_ (by first | (simp; done) | (simp; omega) | (intro h; simp at h; omega)) _)))⟩
          have := HB.out.set_ 2 (.int .i64 4)
          simpa using this
      · have h2 : nextB s.data.toList most (.inl k) = (n, .inl j) := by simp only [nextB, belowV, hv]; rw [if_neg hb]
        rw [h2]
        have hd : decide (n < 0) = false := decide_eq_false fun h => hb (.inl h)
        have hd2 : decide (n ≥ most) = false := decide_eq_false fun h => hb (.inr h)
        clear hb h1 h2 hv hR
        go_enter Try.func16, Try.ntmps16
        go_wp2_with fail
        refine HN.out.mono ?_
        rintro e w1 ⟨rfl, hR, hc1⟩
        have hB := hR.2
        have y2 := hB.cell 2
        simp at y2
        have HR := Lib.hid hR
        have HC1 := Lib.hid hc1
        clear hc1 hR hB
        go_wp2_with fail
        go_ret
        exact ⟨rfl, HR.out, HC1.out⟩
end Go.Proofs.Ytahahginmgidjaa
