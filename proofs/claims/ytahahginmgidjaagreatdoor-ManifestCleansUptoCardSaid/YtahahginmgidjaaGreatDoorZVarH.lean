/-
  The program's reader: number, below, text; a fault leaves by a panic.
-/
import Derived.Test.YtahahginmgidjaaGreatDoorZVarG
import Derived.WalkLawsBesides
namespace Go.Proofs.YtahahginmgidjaaGreatDoor
open Go.RowKit
set_option linter.unusedVariables false
set_option linter.unusedSimpArgs false

/-- The reader of block r: at place k of the bytes s. -/
def RdAt (w : World) (r : Nat) (s : ByteArray) (k : Nat) : Prop := Blk w r 196 #[.string s, .int .i64 (k : Int)]
def Fault (c : Int) (e : Ending) : Prop := e = .panicked [{ v := .iface 192 (.int .i64 c), recovered := false }]
theorem ve_must_ok (w : World) : Calls Tryz.prog 124 #[.int .i64 0] w fun e w' => e = .returned (.tuple #[]) ∧ w' = w := by
  go_enter Tryz.func124, Tryz.ntmps124
  go_wp2_with fail
  go_end0
  exact ⟨rfl, rfl⟩
theorem ve_must_no (c : Int) (hc : c ≠ 0) (w : World) : Calls Tryz.prog 124 #[.int .i64 c] w fun e w' => Fault c e ∧ w' = w := by
  have hq : (c != 0) = true := by simpa using hc
  go_enter Tryz.func124, Tryz.ntmps124
  go_wp2_with fail
  exact ⟨rfl, rfl, rfl⟩
/-- What a call of the reader leaves: the value, the place behind it; or a fault. -/
def NumPost (w : World) (r : Nat) (s : ByteArray) (v : (Value × Nat) ⊕ Int) (e : Ending) (w' : World) : Prop := match v with
  | .inl (x, j) => e = .returned x ∧ RdAt w' r s j ∧ Chg (fun k => k = r) w w'
  | .inr c => Fault c e ∧ c ≠ 0 ∧ Chg (fun k => k = r) w w'
def valI : (Int × Nat) ⊕ Int → (Value × Nat) ⊕ Int
  | .inl (n, j) => .inl (.int .i64 n, j)
  | .inr c => .inr c
def valT : (List UInt8 × Nat) ⊕ Int → (Value × Nat) ⊕ Int
  | .inl (t, j) => .inl (.string ⟨t.toArray⟩, j)
  | .inr c => .inr c
set_option maxRecDepth 100000 in
set_option maxHeartbeats 2000000 in
theorem ve_number (r : Nat) (s : ByteArray) (k : Nat) (hk : k ≤ s.size) (hs : s.size ≤ 281474976710656) (w : World) (hR : RdAt w r s k) : Calls Tryz.prog 121 #[.pointer (some ⟨r, 0, none⟩)] w (NumPost w r s (valI (getV s.data.toList k))) := by
  have y0 := hR.cell 0
  have y1 := hR.cell 1
  have f1 := hR.frozen 1
  have hrl := hR.lt
  simp at y0 y1
  have hg := fun W => va_get s k hk hs W
  have HR := Lib.hid hR
  clear hR
  cases hv : getV s.data.toList k with
  | inl x =>
    obtain ⟨n, j⟩ := x
    have hg2 : ∀ W, Calls Tryz.prog 157 #[.string s, .int .i64 (k : Int)] W fun e w' => e = .returned (.tuple #[.int .i64 n, .int .i64 (j : Int), .int .i64 0]) ∧ W = w' := fun W => (hg W).mono fun e w' ⟨h1, h2⟩ => by
      unfold GetAt at h1
      rw [hv] at h1
      exact ⟨h1, h2⟩
    have HG := Lib.hid hg2
    clear hg hg2 hv
    go_enter Tryz.func121, Tryz.ntmps121
    go_wp2_with fail
    go_quiet ((go_at_call 157; refine quiet_same (HG.out _)))
    obtain ⟨wm, hwm⟩ : ∃ wm, wm = w.drewN nq := ⟨_, rfl⟩
    have hRm : RdAt wm r s k := by rw [hwm]; exact HR.out.drewN nq
    have hcm : Chg (fun k => k = r) w wm := by rw [hwm]; exact (Chg.refl _ _).drewN nq
    rw [← hwm]
    have y0 := hRm.cell 0
    have y1 := hRm.cell 1
    have f1 := hRm.frozen 1
    have hrl := hRm.lt
    simp at y0 y1
    have HRM := Lib.hid hRm
    have HCM := Lib.hid hcm
    clear hRm hcm hwm
    go_wp2_with fail
    refine (ve_must_ok wm).mono ?_
    rintro e w2 ⟨rfl, rfl⟩
    go_wp2_with fail
    go_ret
    exact ⟨rfl, by show Blk _ _ _ _; have := HRM.out.set_ 1 (.int .i64 (j : Int)); simpa using this, by have := HCM.out; ((repeat (first | with_reducible exact Chg.refl _ _ | with_reducible assumption | with_reducible refine Chg.drewN ?_ _ | with_reducible refine Chg.drew ?_ | with_reducible refine Chg.alloc ?_ _ | with_reducible refine Chg.setCell ?_ (by first | (simp; done) | (simp; omega) | (intro h; simp at h; omega)) _)))⟩
  | inr c =>
    have hg2 : ∀ W, Calls Tryz.prog 157 #[.string s, .int .i64 (k : Int)] W fun e w' => e = .returned (.tuple #[.int .i64 0, .int .i64 0, .int .i64 c]) ∧ W = w' := fun W => (hg W).mono fun e w' ⟨h1, h2⟩ => by
      unfold GetAt at h1
      rw [hv] at h1
      exact ⟨h1, h2⟩
    have hc0 : c ≠ 0 := by rcases getV_err hv with rfl | rfl <;> decide
    have HG := Lib.hid hg2
    have HC0 := Lib.hid hc0
    clear hg hg2 hv hc0
    go_enter Tryz.func121, Tryz.ntmps121
    go_wp2_with fail
    go_quiet ((go_at_call 157; refine quiet_same (HG.out _)))
    obtain ⟨wm, hwm⟩ : ∃ wm, wm = w.drewN nq := ⟨_, rfl⟩
    have hRm : RdAt wm r s k := by rw [hwm]; exact HR.out.drewN nq
    have hcm : Chg (fun k => k = r) w wm := by rw [hwm]; exact (Chg.refl _ _).drewN nq
    rw [← hwm]
    have y0 := hRm.cell 0
    have y1 := hRm.cell 1
    have f1 := hRm.frozen 1
    have hrl := hRm.lt
    simp at y0 y1
    have HRM := Lib.hid hRm
    have HCM := Lib.hid hcm
    clear hRm hcm hwm
    go_wp2_with fail
    refine (ve_must_no c HC0.out wm).mono ?_
    rintro e w2 ⟨rfl, rfl⟩
    go_wp2_with fail
    exact ⟨rfl, rfl, HC0.out, HCM.out⟩
set_option maxRecDepth 100000 in
set_option maxHeartbeats 2000000 in
theorem ve_text (r : Nat) (s : ByteArray) (k : Nat) (hk : k ≤ s.size) (hs : s.size ≤ 281474976710656) (w : World) (hR : RdAt w r s k) : Calls Tryz.prog 123 #[.pointer (some ⟨r, 0, none⟩)] w (NumPost w r s (valT (textV s.data.toList k))) := by
  have y0 := hR.cell 0
  have y1 := hR.cell 1
  have f1 := hR.frozen 1
  have hrl := hR.lt
  simp at y0 y1
  have hg := fun W => va_gettext s k hk hs W
  have HR := Lib.hid hR
  clear hR
  cases hv : textV s.data.toList k with
  | inl x =>
    obtain ⟨t, j⟩ := x
    have hg2 : ∀ W, Calls Tryz.prog 158 #[.string s, .int .i64 (k : Int)] W fun e w' => e = .returned (.tuple #[.string ⟨t.toArray⟩, .int .i64 (j : Int), .int .i64 0]) ∧ W = w' := fun W => (hg W).mono fun e w' ⟨h1, h2⟩ => by
      unfold TextAt at h1
      rw [hv] at h1
      exact ⟨h1, h2⟩
    have HG := Lib.hid hg2
    clear hg hg2 hv
    go_enter Tryz.func123, Tryz.ntmps123
    go_wp2_with fail
    go_quiet ((go_at_call 158; refine quiet_same (HG.out _)))
    obtain ⟨wm, hwm⟩ : ∃ wm, wm = w.drewN nq := ⟨_, rfl⟩
    have hRm : RdAt wm r s k := by rw [hwm]; exact HR.out.drewN nq
    have hcm : Chg (fun k => k = r) w wm := by rw [hwm]; exact (Chg.refl _ _).drewN nq
    rw [← hwm]
    have y0 := hRm.cell 0
    have y1 := hRm.cell 1
    have f1 := hRm.frozen 1
    have hrl := hRm.lt
    simp at y0 y1
    have HRM := Lib.hid hRm
    have HCM := Lib.hid hcm
    clear hRm hcm hwm
    go_wp2_with fail
    refine (ve_must_ok wm).mono ?_
    rintro e w2 ⟨rfl, rfl⟩
    go_wp2_with fail
    go_ret
    exact ⟨rfl, by show Blk _ _ _ _; have := HRM.out.set_ 1 (.int .i64 (j : Int)); simpa using this, by have := HCM.out; ((repeat (first | with_reducible exact Chg.refl _ _ | with_reducible assumption | with_reducible refine Chg.drewN ?_ _ | with_reducible refine Chg.drew ?_ | with_reducible refine Chg.alloc ?_ _ | with_reducible refine Chg.setCell ?_ (by first | (simp; done) | (simp; omega) | (intro h; simp at h; omega)) _)))⟩
  | inr c =>
    have hg2 : ∀ W, Calls Tryz.prog 158 #[.string s, .int .i64 (k : Int)] W fun e w' => e = .returned (.tuple #[.string ⟨#[]⟩, .int .i64 0, .int .i64 c]) ∧ W = w' := fun W => (hg W).mono fun e w' ⟨h1, h2⟩ => by
      unfold TextAt at h1
      rw [hv] at h1
      exact ⟨h1, h2⟩
    have hc0 : c ≠ 0 := by
      unfold textV at hv
      split at hv
      · rename_i c' hg'
        injection hv with hv
        subst hv
        rcases getV_err hg' with rfl | rfl <;> decide
      · split at hv
        · injection hv with hv; subst hv; decide
        · split at hv
          · injection hv with hv; subst hv; decide
          · split at hv
            · injection hv with hv; subst hv; decide
            · cases hv
    have HG := Lib.hid hg2
    have HC0 := Lib.hid hc0
    clear hg hg2 hv hc0
    go_enter Tryz.func123, Tryz.ntmps123
    go_wp2_with fail
    go_quiet ((go_at_call 158; refine quiet_same (HG.out _)))
    obtain ⟨wm, hwm⟩ : ∃ wm, wm = w.drewN nq := ⟨_, rfl⟩
    have hRm : RdAt wm r s k := by rw [hwm]; exact HR.out.drewN nq
    have hcm : Chg (fun k => k = r) w wm := by rw [hwm]; exact (Chg.refl _ _).drewN nq
    rw [← hwm]
    have y0 := hRm.cell 0
    have y1 := hRm.cell 1
    have f1 := hRm.frozen 1
    have hrl := hRm.lt
    simp at y0 y1
    have HRM := Lib.hid hRm
    have HCM := Lib.hid hcm
    clear hRm hcm hwm
    go_wp2_with fail
    refine (ve_must_no c HC0.out wm).mono ?_
    rintro e w2 ⟨rfl, rfl⟩
    go_wp2_with fail
    exact ⟨rfl, rfl, HC0.out, HCM.out⟩
/-- A number from 0 on and below another one. -/
def belowV (s : List UInt8) (k : Nat) (most : Int) : (Int × Nat) ⊕ Int := match getV s k with
  | .inl (n, j) => if n < 0 ∨ n ≥ most then .inr 4 else .inl (n, j)
  | .inr c => .inr c
set_option maxRecDepth 100000 in
set_option maxHeartbeats 2000000 in
theorem ve_below (r : Nat) (s : ByteArray) (k : Nat) (most : Int) (hk : k ≤ s.size) (hs : s.size ≤ 281474976710656) (w : World) (hR : RdAt w r s k) : Calls Tryz.prog 122 #[.pointer (some ⟨r, 0, none⟩), .int .i64 most] w (NumPost w r s (valI (belowV s.data.toList k most))) := by
  have hn := ve_number r s k hk hs w hR
  have HN := Lib.hid hn
  clear hn hR
  cases hv : getV s.data.toList k with
  | inl x =>
    obtain ⟨n, j⟩ := x
    rw [hv] at HN
    by_cases hb : n < 0 ∨ n ≥ most
    · have hp : belowV s.data.toList k most = .inr 4 := by unfold belowV; rw [hv]; simp only; rw [if_pos hb]
      rw [hp]
      clear hp hv
      have hd : (decide (n < 0) = true) ∨ (decide (n < 0) = false ∧ decide (n ≥ most) = true) := by
        rcases hb with h | h
        · exact .inl (decide_eq_true h)
        · by_cases h1 : n < 0
          · exact .inl (decide_eq_true h1)
          · exact .inr ⟨decide_eq_false h1, decide_eq_true h⟩
      clear hb
      rcases hd with hd | ⟨hd, hd2⟩
      all_goals
        go_enter Tryz.func122, Tryz.ntmps122
        go_wp2_with fail
        refine HN.out.mono ?_
        rintro e w1 ⟨rfl, hR1, hc1⟩
        have HC1 := Lib.hid hc1
        clear hc1 hR1
        go_wp2_with fail
        refine (ve_must_no 4 (by decide) w1).mono ?_
        rintro e w2 ⟨rfl, rfl⟩
        go_wp2_with fail
        exact ⟨rfl, rfl, by decide, HC1.out⟩
    · have hp : belowV s.data.toList k most = .inl (n, j) := by unfold belowV; rw [hv]; simp only; rw [if_neg hb]
      rw [hp]
      have hd : decide (n < 0) = false := decide_eq_false fun h => hb (.inl h)
      have hd2 : decide (n ≥ most) = false := decide_eq_false fun h => hb (.inr h)
      clear hp hv hb
      go_enter Tryz.func122, Tryz.ntmps122
      go_wp2_with fail
      refine HN.out.mono ?_
      rintro e w1 ⟨rfl, hR1, hc1⟩
      have HC1 := Lib.hid hc1
      have HR1 := Lib.hid hR1
      clear hc1 hR1
      go_wp2_with fail
      go_ret
      exact ⟨rfl, HR1.out, HC1.out⟩
  | inr c =>
    rw [hv] at HN
    have hp : belowV s.data.toList k most = .inr c := by unfold belowV; rw [hv]
    rw [hp]
    clear hp hv
    go_enter Tryz.func122, Tryz.ntmps122
    go_wp2_with fail
    refine HN.out.mono ?_
    rintro e w1 ⟨rfl, hc0, hc1⟩
    have HC1 := Lib.hid hc1
    have HC0 := Lib.hid hc0
    clear hc1 hc0
    go_wp2_with fail
    exact ⟨rfl, rfl, HC0.out, HC1.out⟩
end Go.Proofs.YtahahginmgidjaaGreatDoor
