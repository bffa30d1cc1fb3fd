/-
  The program's reader of patterns: peek, one, has, word, number; a fault leaves by a panic.
-/
import Derived.Test.YtjloddlkleileaaGreatDoorBase
import Derived.Test.YtjloddlkleileaaGreatDoorProg
import Derived.Test.YtjloddlkleileaaGreatDoorPatM
import Derived.WalkLawsBesides
import Derived.Laws.Strings
import Derived.IntWalk
import Derived.Deep.DeepCutAuto
import Derived.Outline
import Derived.StillTailTactics
namespace Go.Proofs.YtjloddlkleileaaGreatDoor
open Go.RowKit
set_option linter.unusedVariables false
set_option linter.unusedSimpArgs false

/-- The reader of block r: at place k of the text s. -/
def PRd (w : World) (r : Nat) (s : ByteArray) (k : Nat) : Prop := Blk w r 338 #[.string s, .int .i64 (k : Int)]
def PFault (c : Int) (e : Ending) : Prop := ∃ i : Int, e = .panicked [{ v := .iface 334 (.agg #[.int .i64 i, .int .i64 c]), recovered := false }]
/-- What a call of the reader leaves: a value, and the place behind it; or a fault. -/
def PPost (w : World) (r : Nat) (s : ByteArray) (v : (Value × Nat) ⊕ Int) (e : Ending) (w' : World) : Prop := match v with
  | .inl (x, j) => e = .returned x ∧ PRd w' r s j ∧ j ≤ s.size ∧ Chg (fun k => k = r) w w'
  | .inr c => PFault c e ∧ Chg (fun k => k = r) w w'
def PRes.map {α : Type} (f : α → Value) : PRes α → (Value × Nat) ⊕ Int
  | .inl (x, j) => .inl (f x, j)
  | .inr c => .inr c
abbrev bV (b : UInt8) : Value := .int .u8 (b.toNat : Int)
def pa_at (s : ByteArray) (k : Nat) : Int := ((s.data.toList.getD k 0).toNat : Int)
theorem pa_len (s : ByteArray) : s.data.toList.length = s.size := by rw [Array.length_toList]; rfl
theorem pa_sat (s : ByteArray) (k : Nat) (hk : k < s.size) (w : World) : (Instr.index 9 (.string s) (.int .i64 (k : Int))).run Tryz.prog w = .ok (.int .u8 (pa_at s k)) w := by
  rw [run_index_string w _ _ _ _ Tryz.underlying9, dif_pos ⟨by omega, by omega⟩]
  have : s.data.toList.getD k 0 = s[k] := by
    rw [List.getD_eq_getElem?_getD, List.getElem?_eq_getElem (by rw [pa_len]; exact hk), Option.getD_some, Array.getElem_toList]
    rfl
  show _ = Result.ok (Value.int .u8 ((s.data.toList.getD k 0).toNat : Int)) w
  rw [this]
  rfl
theorem pa_fail (p : Value) (i c : Int) (w : World) : Calls Tryz.prog 170 #[p, .int .i64 i, .int .i64 c] w fun e w' => e = .panicked [{ v := .iface 334 (.agg #[.int .i64 i, .int .i64 c]), recovered := false }] ∧ w = w' := by
  go_enter Tryz.func170, Tryz.ntmps170
  go_wp2_with fail
  exact ⟨rfl, rfl, rfl⟩
set_option maxRecDepth 100000 in
set_option maxHeartbeats 2000000 in
theorem pa_peek (r : Nat) (s : ByteArray) (k : Nat) (hk : k ≤ s.size) (w : World) (hR : PRd w r s k) : Calls Tryz.prog 334 #[.pointer (some ⟨r, 0, none⟩)] w fun e w' => e = .returned (.int .u8 (pa_at s k)) ∧ ∃ n, w.drewN n = w' := by
  have y0 := hR.cell 0
  have y1 := hR.cell 1
  have f1 := hR.frozen 1
  have hrl := hR.lt
  simp at y0 y1
  have HR := Lib.hid hR
  clear hR
  by_cases h : k = s.size
  · subst h
    have hq : ((s.size : Int) == (s.size : Int)) = true := by simp
    have e : pa_at s s.size = 0 := by unfold pa_at; rw [List.getD_eq_getElem?_getD, List.getElem?_eq_none (by rw [pa_len]; exact Nat.le_refl _)]; rfl
    have E := Lib.hid e
    clear e
    go_enter Tryz.func334, Tryz.ntmps334
    go_wp2_with fail
    go_quiet (fail)
    go_wp2_with fail
    go_ret
    exact ⟨by rw [E.out]; rfl, _, rfl⟩
  · have hq : ((k : Int) == (s.size : Int)) = false := by rw [beq_eq_false_iff_ne]; omega
    have hx := pa_sat s k (by omega)
    go_enter Tryz.func334, Tryz.ntmps334
    go_wp2_with fail
    go_quiet (fail)
    go_wp2_with fail
    go_quiet (fail)
    go_wp2_with fail
    go_ret
    exact ⟨rfl, _, by rw [World.drewN_drewN]⟩
theorem isB_yes {s : ByteArray} {k : Nat} {a b : UInt8} (h : isB s.data.toList k a b = true) : k < s.size ∧ (a.toNat : Int) ≤ pa_at s k ∧ pa_at s k ≤ (b.toNat : Int) := by
  unfold isB at h
  cases hc : s.data.toList[k]? with
  | none => rw [hc] at h; cases h
  | some c =>
    rw [hc] at h
    simp only [Bool.and_eq_true, decide_eq_true_eq, UInt8.le_iff_toNat_le] at h
    obtain ⟨h1, _⟩ := List.getElem?_eq_some_iff.1 hc
    rw [pa_len] at h1
    have e : pa_at s k = (c.toNat : Int) := by unfold pa_at; rw [List.getD_eq_getElem?_getD, hc]; rfl
    rw [e]
    omega
theorem isB_no {s : ByteArray} {k : Nat} {a b : UInt8} (h : isB s.data.toList k a b = false) : s.size ≤ k ∨ pa_at s k < (a.toNat : Int) ∨ (b.toNat : Int) < pa_at s k := by
  unfold isB at h
  cases hc : s.data.toList[k]? with
  | none =>
    have := List.getElem?_eq_none_iff.1 hc
    rw [pa_len] at this
    exact .inl this
  | some c =>
    rw [hc] at h
    simp only [Bool.and_eq_false_iff, decide_eq_false_iff_not, UInt8.le_iff_toNat_le] at h
    have e : pa_at s k = (c.toNat : Int) := by unfold pa_at; rw [List.getD_eq_getElem?_getD, hc]; rfl
    rw [e]
    omega
theorem PRd.drewN {w : World} {r : Nat} {s : ByteArray} {k : Nat} (h : PRd w r s k) (n : Nat) : PRd (w.drewN n) r s k := Blk.drewN h n
set_option maxRecDepth 100000 in
set_option maxHeartbeats 2000000 in
theorem pa_one (r : Nat) (s : ByteArray) (k : Nat) (a b : UInt8) (x y : Int) (hx : x = (a.toNat : Int)) (hy : y = (b.toNat : Int)) (hk : k ≤ s.size) (hs : s.size ≤ 4096) (w : World) (hR : PRd w r s k) :
    Calls Tryz.prog 333 #[.pointer (some ⟨r, 0, none⟩), .int .u8 x, .int .u8 y] w (PPost w r s ((oneV s.data.toList k a b).map bV)) := by
  have hp := fun W hW => pa_peek r s k hk W hW
  have hc : Chg (fun k => k = r) w w := Chg.refl _ _
  have HP := Lib.hid hp
  have HR := Lib.hid hR
  have HC := Lib.hid hc
  clear hp hR hc
  unfold oneV
  cases h : isB s.data.toList k a b with
  | true =>
    rw [if_pos rfl]
    obtain ⟨h1, h2, h3⟩ := isB_yes h
    rw [← hx] at h2
    rw [← hy] at h3
    have q1 : ((k : Int) == (s.size : Int)) = false := by rw [beq_eq_false_iff_ne]; omega
    have q2 : decide (pa_at s k < x) = false := by simp; omega
    have q3 : decide (pa_at s k > y) = false := by simp; omega
    have hi := IntWalk.i64_in ((k : Int) + 1) (by omega)
    clear h hx hy h2 h3
    go_enter Tryz.func333, Tryz.ntmps333
    go_wp2_with fail
    refine (HP.out w HR.out).mono ?_
    rintro e w1 ⟨rfl, nq, hw⟩
    have hR1 : PRd w1 r s k := by rw [← hw]; exact HR.out.drewN _
    have hc1 : Chg (fun k => k = r) w w1 := by rw [← hw]; exact HC.out.drewN _
    clear HR HC hw
    have HR := Lib.hid hR1
    have HC := Lib.hid hc1
    clear hR1 hc1
    have y0 := HR.out.cell 0
    have y1 := HR.out.cell 1
    have f1 := HR.out.frozen 1
    have hrl := HR.out.lt
    simp at y0 y1
    go_wp2_with fail
    go_quiet (fail)
    obtain ⟨w2, hw⟩ : ∃ w2, w1.drewN nq = w2 := ⟨_, rfl⟩
    rw [hw]
    clear y0 y1 f1 hrl
    have hR1 : PRd w2 r s k := by rw [← hw]; exact HR.out.drewN _
    have hc1 : Chg (fun k => k = r) w w2 := by rw [← hw]; exact HC.out.drewN _
    clear HR HC hw
    have HR := Lib.hid hR1
    have HC := Lib.hid hc1
    clear hR1 hc1
    have y0 := HR.out.cell 0
    have y1 := HR.out.cell 1
    have f1 := HR.out.frozen 1
    have hrl := HR.out.lt
    simp at y0 y1
    go_wp2_with fail
    go_ret
    exact ⟨rfl, by show Blk _ _ _ _; have := HR.out.set_ 1 (.int .i64 ((k : Int) + 1)); simpa using this, by omega, by have := HC.out; ((repeat (first | with_reducible exact Chg.refl _ _ | with_reducible assumption | with_reducible refine Chg.drewN ?_ _ | with_reducible refine Chg.drew ?_ | with_reducible refine Chg.alloc ?_ _ | with_reducible refine Chg.setCell ?_ (by first | (simp; done) | (simp; omega) | (intro h; simp at h; omega)) _)))⟩
  | false =>
    rw [if_neg (by decide)]
    have hq : ((k : Int) == (s.size : Int)) = true ∨ (((k : Int) == (s.size : Int)) = false ∧ decide (pa_at s k < x) = true) ∨ (((k : Int) == (s.size : Int)) = false ∧ decide (pa_at s k < x) = false ∧ decide (pa_at s k > y) = true) := by
      have := isB_no h
      rw [← hx, ← hy] at this
      simp only [beq_iff_eq, beq_eq_false_iff_ne, decide_eq_true_eq, decide_eq_false_iff_not]
      omega
    clear h hx hy
    rcases hq with q1 | ⟨q1, q2⟩ | ⟨q1, q2, q3⟩
    all_goals
      go_enter Tryz.func333, Tryz.ntmps333
      go_wp2_with fail
      refine (HP.out w HR.out).mono ?_
      rintro e w1 ⟨rfl, nq, hw⟩
      have hR1 : PRd w1 r s k := by rw [← hw]; exact HR.out.drewN _
      have hc1 : Chg (fun k => k = r) w w1 := by rw [← hw]; exact HC.out.drewN _
      clear HR HC hw
      have HR := Lib.hid hR1
      have HC := Lib.hid hc1
      clear hR1 hc1
      have y0 := HR.out.cell 0
      have y1 := HR.out.cell 1
      have f1 := HR.out.frozen 1
      have hrl := HR.out.lt
      simp at y0 y1
      go_wp2_with fail
      go_quiet (fail)
      obtain ⟨w2, hw⟩ : ∃ w2, w1.drewN nq = w2 := ⟨_, rfl⟩
      rw [hw]
      clear y0 y1 f1 hrl
      have hR1 : PRd w2 r s k := by rw [← hw]; exact HR.out.drewN _
      have hc1 : Chg (fun k => k = r) w w2 := by rw [← hw]; exact HC.out.drewN _
      clear HR HC hw
      have HR := Lib.hid hR1
      have HC := Lib.hid hc1
      clear hR1 hc1
      have y0 := HR.out.cell 0
      have y1 := HR.out.cell 1
      have f1 := HR.out.frozen 1
      have hrl := HR.out.lt
      simp at y0 y1
      go_wp2_with fail
      refine (pa_fail _ _ _ _).mono ?_
      rintro e w3 ⟨rfl, rfl⟩
      go_wp2_with fail
      exact ⟨rfl, ⟨_, rfl⟩, HC.out⟩
/-- The place behind a byte, if it is the next one. -/
def hasK (s : ByteArray) (k : Nat) (a : UInt8) : Nat := if isB s.data.toList k a a then k + 1 else k
set_option maxRecDepth 100000 in
set_option maxHeartbeats 2000000 in
theorem pa_has (r : Nat) (s : ByteArray) (k : Nat) (a : UInt8) (x : Int) (hx : x = (a.toNat : Int)) (hk : k ≤ s.size) (hs : s.size ≤ 4096) (w : World) (hR : PRd w r s k) :
    Calls Tryz.prog 253 #[.pointer (some ⟨r, 0, none⟩), .int .u8 x] w fun e w' => e = .returned (.bool (isB s.data.toList k a a)) ∧ PRd w' r s (hasK s k a) ∧ hasK s k a ≤ s.size ∧ Chg (fun k => k = r) w w' := by
  have hp := fun W hW => pa_peek r s k hk W hW
  have hc : Chg (fun k => k = r) w w := Chg.refl _ _
  have y0 := hR.cell 0
  have y1 := hR.cell 1
  have f1 := hR.frozen 1
  have hrl := hR.lt
  simp at y0 y1
  have HP := Lib.hid hp
  have HR := Lib.hid hR
  have HC := Lib.hid hc
  clear hp hR hc
  cases h : isB s.data.toList k a a with
  | true =>
    have he : hasK s k a = k + 1 := by unfold hasK; rw [if_pos h]
    have HE := Lib.hid he
    clear he
    obtain ⟨h1, h2, h3⟩ := isB_yes h
    rw [← hx] at h2 h3
    have q1 : ((k : Int) == (s.size : Int)) = false := by rw [beq_eq_false_iff_ne]; omega
    have q2 : (pa_at s k != x) = false := by simp; omega
    have hi := IntWalk.i64_in ((k : Int) + 1) (by omega)
    clear h hx h2 h3
    go_enter Tryz.func253, Tryz.ntmps253
    go_wp2_with fail
    go_quiet ((go_at_call 334; refine quiet_drew' (HP.out _ (HR.out.drewN _))))
    obtain ⟨w1, hw⟩ : ∃ w1, w.drewN nq = w1 := ⟨_, rfl⟩
    rw [hw]
    clear y0 y1 f1 hrl
    have hR1 : PRd w1 r s k := by rw [← hw]; exact HR.out.drewN _
    have hc1 : Chg (fun k => k = r) w w1 := by rw [← hw]; exact HC.out.drewN _
    clear HR HC hw
    have HR := Lib.hid hR1
    have HC := Lib.hid hc1
    clear hR1 hc1
    have y0 := HR.out.cell 0
    have y1 := HR.out.cell 1
    have f1 := HR.out.frozen 1
    have hrl := HR.out.lt
    simp at y0 y1
    go_wp2_with fail
    go_ret
    rw [HE.out]
    exact ⟨rfl, by show Blk _ _ _ _; have := HR.out.set_ 1 (.int .i64 ((k : Int) + 1)); simpa using this, by omega, by have := HC.out; ((repeat (first | with_reducible exact Chg.refl _ _ | with_reducible assumption | with_reducible refine Chg.drewN ?_ _ | with_reducible refine Chg.drew ?_ | with_reducible refine Chg.alloc ?_ _ | with_reducible refine Chg.setCell ?_ (by first | (simp; done) | (simp; omega) | (intro h; simp at h; omega)) _)))⟩
  | false =>
    have he : hasK s k a = k := by unfold hasK; rw [if_neg (by rw [h]; decide)]
    have HE := Lib.hid he
    clear he
    have hq : ((k : Int) == (s.size : Int)) = true ∨ (((k : Int) == (s.size : Int)) = false ∧ (pa_at s k != x) = true) := by
      have := isB_no h
      rw [← hx] at this
      simp only [beq_iff_eq, beq_eq_false_iff_ne, bne_iff_ne]
      omega
    clear h hx
    rcases hq with q1 | ⟨q1, q2⟩
    all_goals
      go_enter Tryz.func253, Tryz.ntmps253
      go_wp2_with fail
      go_quiet ((go_at_call 334; refine quiet_drew' (HP.out _ (HR.out.drewN _))))
      obtain ⟨w1, hw⟩ : ∃ w1, w.drewN nq = w1 := ⟨_, rfl⟩
      rw [hw]
      clear y0 y1 f1 hrl
      have hR1 : PRd w1 r s k := by rw [← hw]; exact HR.out.drewN _
      have hc1 : Chg (fun k => k = r) w w1 := by rw [← hw]; exact HC.out.drewN _
      clear HR HC hw
      have HR := Lib.hid hR1
      have HC := Lib.hid hc1
      clear hR1 hc1
      have y0 := HR.out.cell 0
      have y1 := HR.out.cell 1
      have f1 := HR.out.frozen 1
      have hrl := HR.out.lt
      simp at y0 y1
      go_wp2_with fail
      go_ret
      rw [HE.out]
      exact ⟨rfl, HR.out, hk, HC.out⟩
end Go.Proofs.YtjloddlkleileaaGreatDoor
