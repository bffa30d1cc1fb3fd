/-
  The pattern that a text is: plain Lean over lists of bytes; no program; no condition.
-/
import Derived.Test.YtjloddlkleileaaGreatDoorBase
namespace Go.Proofs.YtjloddlkleileaaGreatDoor
open Go.RowKit
set_option linter.unusedVariables false
set_option linter.unusedSimpArgs false

structure PStepV where
  kind : UInt8
  name : UInt8
  no : Bool
  min : Int
  max : Int
structure PCondV where
  left : UInt8
  op : Int
  right : UInt8
  add : Int
structure PatV where
  steps : List PStepV
  conds : List PCondV
  within : Int
/-- What reading gives: something, and the place behind it; or the number of a fault. -/
abbrev PRes (α : Type) := (α × Nat) ⊕ Int
def PRes.bind {α β : Type} (r : PRes α) (f : α → Nat → PRes β) : PRes β := match r with
  | .inl (x, k) => f x k
  | .inr e => .inr e
section
variable (s : List UInt8)
def isB (k : Nat) (a b : UInt8) : Bool := match s[k]? with
  | some c => decide (a ≤ c) && decide (c ≤ b)
  | none => false
def oneV (k : Nat) (a b : UInt8) : PRes UInt8 := if isB s k a b then .inl (s.getD k 0, k + 1) else .inr 20
def wordV : List UInt8 → Nat → PRes Unit
  | [], k => .inl ((), k)
  | c :: r, k => (oneV s k c c).bind fun _ j => wordV r j
/-- More digits, at most so many. -/
def digitsV : Nat → Int → Nat → Int × Nat
  | 0, n, k => (n, k)
  | m + 1, n, k => if isB s k 48 57 then digitsV m (10 * n + ((s.getD k 0).toNat - 48 : Int)) (k + 1) else (n, k)
def numberP (k : Nat) (least : UInt8) : PRes Int := (oneV s k least 57).bind fun c j => if c = 48 then .inl (0, j) else .inl (digitsV s 8 ((c.toNat : Int) - 48) j)
def stepMany (k : Nat) : Int := if isB s k 33 33 then 24 else if isB s k 65 90 then 24 else 20
def stepBounds (x : PStepV) (k : Nat) : PRes PStepV :=
  (numberP s k 48).bind fun low k1 => (wordV s [44] k1).bind fun _ k2 => (numberP s k2 48).bind fun high k3 => (wordV s [125] k3).bind fun _ k4 =>
    if low < 1 ∨ low > high ∨ high > 4 ∨ high = 1 then .inr 22 else .inl ({ x with min := low, max := high }, k4)
def stepP (k ahead : Nat) : PRes PStepV :=
  if ahead = 8 then .inr (stepMany s k)
  else (oneV s (if isB s k 33 33 then k + 1 else k) 65 90).bind fun kind k1 => (wordV s [32] k1).bind fun _ k2 => (oneV s k2 97 122).bind fun name k3 =>
    if isB s k3 123 123 then
      if isB s k 33 33 then .inr 22 else stepBounds s ⟨kind, name, isB s k 33 33, 1, 1⟩ (k3 + 1)
    else .inl (⟨kind, name, isB s k 33 33, 1, 1⟩, k3)
def opP (k : Nat) : PRes Int :=
  if isB s k 60 60 then (if isB s (k + 1) 61 61 then .inl (1, k + 2) else .inl (0, k + 1))
  else if isB s k 62 62 then (if isB s (k + 1) 61 61 then .inl (4, k + 2) else .inl (5, k + 1))
  else if isB s k 33 33 then (wordV s [61] (k + 1)).bind fun _ j => .inl (3, j)
  else (wordV s [61] k).bind fun _ j => .inl (2, j)
def condMany (k : Nat) : Int := if isB s k 97 122 then 24 else 20
def condP (k ahead : Nat) : PRes PCondV :=
  if ahead = 16 then .inr (condMany s k)
  else (oneV s k 97 122).bind fun left k1 => (opP s k1).bind fun op k2 =>
    if isB s k2 45 45 then (numberP s (k2 + 1) 49).bind fun n j => .inl (⟨left, op, 0, -n⟩, j)
    else if isB s k2 48 57 then (numberP s k2 48).bind fun n j => .inl (⟨left, op, 0, n⟩, j)
    else (oneV s k2 97 122).bind fun right k3 =>
      if isB s k3 43 43 then (numberP s (k3 + 1) 49).bind fun n j => .inl (⟨left, op, right, n⟩, j)
      else if isB s k3 45 45 then (numberP s (k3 + 1) 49).bind fun n j => .inl (⟨left, op, right, -n⟩, j)
      else .inl (⟨left, op, right, 0⟩, k3)
/-- More steps, each behind a comma (at most so many are tried). -/
def stepsV : Nat → List PStepV → Nat → PRes (List PStepV)
  | 0, l, k => .inl (l, k)
  | m + 1, l, k => if isB s k 44 44 then (stepP s (k + 1) l.length).bind fun x j => stepsV m (l ++ [x]) j else .inl (l, k)
def condsV : Nat → List PCondV → Nat → PRes (List PCondV)
  | 0, l, k => .inl (l, k)
  | m + 1, l, k => if isB s k 65 65 then (wordV s [78, 68, 32] (k + 1)).bind fun _ k1 => (condP s k1 l.length).bind fun x k2 => (wordV s [32] k2).bind fun _ k3 => condsV m (l ++ [x]) k3 else .inl (l, k)
def withinP (steps : List PStepV) (conds : List PCondV) (k : Nat) : PRes PatV := (wordV s [73, 84, 72, 73, 78, 32] k).bind fun _ j => (numberP s j 48).bind fun n i => .inl (⟨steps, conds, n⟩, i)
def whereP (steps : List PStepV) (k : Nat) : PRes PatV :=
  if isB s k 72 72 then (wordV s [69, 82, 69, 32] (k + 1)).bind fun _ k1 => (condP s k1 0).bind fun c k2 => (wordV s [32] k2).bind fun _ k3 => (condsV s 16 [c] k3).bind fun conds k4 => (wordV s [87] k4).bind fun _ k5 => withinP s steps conds k5
  else withinP s steps [] k
def patternP : PRes PatV := (wordV s [83, 69, 81, 40] 0).bind fun _ k1 => (stepP s k1 0).bind fun x k2 => (stepsV s 8 [x] k2).bind fun steps k3 => (wordV s [41, 32, 87] k3).bind fun _ k4 => whereP s steps k4
/-- The pattern of a text; or the number of the fault. -/
def parseP : PatV ⊕ Int := if s.length > 4096 then .inr 5 else match patternP s with
  | .inr e => .inr e
  | .inl (p, k) => if k < s.length then .inr 20 else .inl p
end
end Go.Proofs.YtjloddlkleileaaGreatDoor
