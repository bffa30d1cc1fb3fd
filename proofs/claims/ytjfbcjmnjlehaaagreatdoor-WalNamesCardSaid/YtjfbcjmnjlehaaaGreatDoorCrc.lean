/-
  The check sum of bytes, as plain numbers; one byte more or less makes another sum. Plain Lean; no program; no condition.
-/
import Derived.WalkKit
namespace Go.Proofs.YtjfbcjmnjlehaaaGreatDoor
set_option linter.unusedVariables false
set_option linter.unusedSimpArgs false

theorem xor_right {a b c : Nat} (h : a ^^^ c = b ^^^ c) : a = b := by
  have := congrArg (· ^^^ c) h
  simpa [Nat.xor_assoc] using this
theorem xor_left {a b c : Nat} (h : c ^^^ a = c ^^^ b) : a = b := xor_right (c := c) (by rw [Nat.xor_comm a, Nat.xor_comm b]; exact h)
def crcStep (c : Nat) : Nat := (c / 2) ^^^ (if c % 2 = 1 then 3988292384 else 0)
theorem crcStep_lt {c : Nat} (h : c < 4294967296) : crcStep c < 4294967296 := by
  unfold crcStep
  refine Nat.xor_lt_two_pow (n := 32) (by omega) ?_
  split <;> omega
theorem crcStep_top {c : Nat} (h : c < 4294967296) : (crcStep c).testBit 31 = decide (c % 2 = 1) := by
  unfold crcStep
  rw [Nat.testBit_xor, Nat.testBit_lt_two_pow (show c / 2 < 2 ^ 31 by omega)]
  by_cases hc : c % 2 = 1
  · simp only [hc, if_true, Bool.false_xor, decide_true]
    decide
  · simp [hc]
theorem crcStep_inj {c d : Nat} (hc : c < 4294967296) (hd : d < 4294967296) (h : crcStep c = crcStep d) : c = d := by
  have h1 := crcStep_top hc
  have h2 := crcStep_top hd
  rw [h, h2] at h1
  have hb : (c % 2 = 1 ↔ d % 2 = 1) := by
    constructor
    · intro e; simpa [e] using h1
    · intro e; simpa [e] using h1.symm
  have hh : c / 2 = d / 2 := by
    unfold crcStep at h
    by_cases e : c % 2 = 1
    · rw [if_pos e, if_pos (hb.1 e)] at h
      exact xor_right h
    · rw [if_neg e, if_neg (fun e' => e (hb.2 e'))] at h
      simpa using h
  by_cases e : c % 2 = 1
  · have := hb.1 e; omega
  · have : ¬ d % 2 = 1 := fun e' => e (hb.2 e')
    omega
def crcN : Nat → Nat → Nat
  | 0, c => c
  | n + 1, c => crcN n (crcStep c)
theorem crcN_succ (n c : Nat) : crcN (n + 1) c = crcStep (crcN n c) := by
  induction n generalizing c with
  | zero => rfl
  | succ n ih => exact ih (crcStep c)
theorem crcN_lt {c : Nat} (h : c < 4294967296) (n : Nat) : crcN n c < 4294967296 := by
  induction n generalizing c with
  | zero => exact h
  | succ n ih => exact ih (crcStep_lt h)
theorem crcN_inj {c d : Nat} (hc : c < 4294967296) (hd : d < 4294967296) (n : Nat) (h : crcN n c = crcN n d) : c = d := by
  induction n generalizing c d with
  | zero => exact h
  | succ n ih => exact crcStep_inj hc hd (ih (crcStep_lt hc) (crcStep_lt hd) h)
def crcByte (c : Nat) (b : UInt8) : Nat := crcN 8 (c ^^^ b.toNat)
theorem xor_byte_lt {c : Nat} (h : c < 4294967296) (b : UInt8) : c ^^^ b.toNat < 4294967296 := Nat.xor_lt_two_pow (n := 32) h (by have := b.toNat_lt; omega)
theorem crcByte_lt {c : Nat} (h : c < 4294967296) (b : UInt8) : crcByte c b < 4294967296 := crcN_lt (xor_byte_lt h b) 8
def crcF (c : Nat) (l : List UInt8) : Nat := l.foldl crcByte c
theorem crcF_lt {c : Nat} (h : c < 4294967296) (l : List UInt8) : crcF c l < 4294967296 := by
  induction l generalizing c with
  | nil => exact h
  | cons b l ih => exact ih (crcByte_lt h b)
theorem crcF_inj {c d : Nat} (hc : c < 4294967296) (hd : d < 4294967296) (l : List UInt8) (h : crcF c l = crcF d l) : c = d := by
  induction l generalizing c d with
  | nil => exact h
  | cons b l ih =>
    have := crcN_inj (xor_byte_lt hc b) (xor_byte_lt hd b) 8 (ih (crcByte_lt hc b) (crcByte_lt hd b) h)
    exact xor_right this
/-- The sum. -/
def crcSum (l : List UInt8) : Nat := 4294967295 - crcF 4294967295 l
theorem crcSum_lt (l : List UInt8) : crcSum l < 4294967296 := by unfold crcSum; omega
theorem crcF_snoc (c : Nat) (l : List UInt8) (b : UInt8) : crcF c (l ++ [b]) = crcByte (crcF c l) b := by simp [crcF]
/-- One byte turned: another sum. -/
theorem crcSum_ne (A B : List UInt8) (x y : UInt8) (h : x ≠ y) : crcSum (A ++ x :: B) ≠ crcSum (A ++ y :: B) := fun e => by
  have hA := crcF_lt (show 4294967295 < 4294967296 by omega) A
  have h1 := crcF_lt (show 4294967295 < 4294967296 by omega) (A ++ x :: B)
  have h2 := crcF_lt (show 4294967295 < 4294967296 by omega) (A ++ y :: B)
  have e1 : crcF 4294967295 (A ++ x :: B) = crcF 4294967295 (A ++ y :: B) := by unfold crcSum at e; omega
  unfold crcF at e1 hA
  rw [List.foldl_append, List.foldl_append] at e1
  have e2 := crcF_inj (c := crcByte (crcF 4294967295 A) x) (d := crcByte (crcF 4294967295 A) y) (crcByte_lt hA x) (crcByte_lt hA y) B e1
  have e3 := crcN_inj (xor_byte_lt hA x) (xor_byte_lt hA y) 8 e2
  exact h (UInt8.toNat_inj.1 (xor_left e3))
end Go.Proofs.YtjfbcjmnjlehaaaGreatDoor
