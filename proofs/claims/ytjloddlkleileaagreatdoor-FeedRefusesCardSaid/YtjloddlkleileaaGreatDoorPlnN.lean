/-
  The document's look at a pattern: plain Lean; it says the same as the program's. No program; no condition.
-/
import Derived.Test.YtjloddlkleileaaGreatDoorPlnM
namespace Go.Proofs.YtjloddlkleileaaGreatDoor
open Go.RowKit
set_option linter.unusedVariables false
set_option linter.unusedSimpArgs false

def stepBad2 (l : List PStepV) (i : Nat) (x : PStepV) : Int :=
  if x.kind < 65 ∨ x.kind > 90 ∨ x.name < 97 ∨ x.name > 122 then 20
  else if findP l x.name ≠ (i : Int) then 21
  else if x.no = true ∧ (i = 0 ∨ i + 1 = l.length) then 23
  else if x.no = true ∧ (x.min ≠ 1 ∨ x.max ≠ 1) then 22
  else if x.min < 1 ∨ x.max < x.min ∨ x.max > 4 then 22
  else 0
theorem stepBad_eq {l A B : List PStepV} {x : PStepV} (h : l = A ++ x :: B) : stepBad2 l A.length x = stepBad l A.length x := by
  have hf := findP_le (A := A) (B := B) (x := x)
  rw [← h] at hf
  unfold stepBad2 stepBad
  have h1 : (x.kind < 65 ∨ x.kind > 90 ∨ x.name < 97 ∨ x.name > 122) ↔ (¬ (65 ≤ x.kind ∧ x.kind ≤ 90) ∨ ¬ (97 ≤ x.name ∧ x.name ≤ 122)) := by
    have : (65 : UInt8).toNat = 65 := rfl
    have : (90 : UInt8).toNat = 90 := rfl
    have : (97 : UInt8).toNat = 97 := rfl
    have : (122 : UInt8).toNat = 122 := rfl
    simp only [UInt8.le_iff_toNat_le, UInt8.lt_iff_toNat_lt, gt_iff_lt]
    omega
  have h2 : (findP l x.name ≠ (A.length : Int)) ↔ (findP l x.name < (A.length : Int)) := by omega
  simp only [h1, h2]
  have h3 : ∀ p q r s t : Prop, [Decidable p] → [Decidable q] → [Decidable (p ∨ q)] → (if p then (22 : Int) else if q then 22 else 0) = if p ∨ q then 22 else 0 := by
    intro p q _ _ _ _ _ _
    by_cases hp : p
    · rw [if_pos hp, if_pos (.inl hp)]
    · rw [if_neg hp]
      by_cases hq : q
      · rw [if_pos hq, if_pos (.inr hq)]
      · rw [if_neg hq, if_neg (fun h => h.elim hp hq)]
  rw [h3 _ _ True True True]
def stepsBad2 (l : List PStepV) : Nat → List PStepV → Int → (Nat × Int) ⊕ Int
  | _, [], n => .inr n
  | i, x :: r, n => if stepBad2 l i x ≠ 0 then .inl (i, stepBad2 l i x) else stepsBad2 l (i + 1) r (if x.no then n else n + x.max)
theorem stepsBad_eq {l : List PStepV} (A r : List PStepV) (n : Int) (h : l = A ++ r) : stepsBad2 l A.length r n = stepsBad l A.length r n := by
  induction r generalizing A n with
  | nil => rfl
  | cons x r ih =>
    rw [stepsBad2, stepsBad, stepBad_eq h]
    have := ih (A ++ [x]) (if x.no then n else n + x.max) (by rw [h]; simp)
    rw [List.length_append] at this
    rw [show A.length + 1 = A.length + [x].length from rfl, this]
def condsBad2 (l : List PStepV) : Nat → List PCondV → Nat × Int
  | _, [] => (0, 0)
  | i, c :: r => if condBad2 l c ≠ 0 then (i, condBad2 l c) else condsBad2 l (i + 1) r
theorem condsBad_eq (l : List PStepV) (i : Nat) (r : List PCondV) : condsBad2 l i r = condsBad l i r := by
  induction r generalizing i with
  | nil => rfl
  | cons c r ih => rw [condsBad2, condsBad, condBad_eq, ih]
def checkP2 (p : PatV) : Nat × Int :=
  if p.steps.length = 0 ∨ p.steps.length > 8 ∨ p.conds.length > 16 then (0, 24)
  else if p.within < 0 ∨ p.within > 9007199254740992 then (0, 2)
  else match stepsBad2 p.steps 0 p.steps 0 with
    | .inl e => e
    | .inr n => if n > 16 then (0, 24) else condsBad2 p.steps p.steps.length p.conds
theorem checkP_eq (p : PatV) : checkP2 p = checkP p := by
  unfold checkP2 checkP
  have h := stepsBad_eq (l := p.steps) [] p.steps 0 rfl
  rw [show ([] : List PStepV).length = 0 from rfl] at h
  rw [h]
  by_cases h1 : p.steps.length < 1 ∨ p.steps.length > 8 ∨ p.conds.length > 16
  · rw [if_pos h1, if_pos (by omega)]
  · rw [if_neg h1, if_neg (by omega)]
    split
    · rfl
    · cases stepsBad p.steps 0 p.steps 0 with
      | inl e => rfl
      | inr n => dsimp only; rw [condsBad_eq]
end Go.Proofs.YtjloddlkleileaaGreatDoor
