/-
  What is wrong with a pattern: plain Lean; the program's order of looks and the document's say the same. No program; no condition.
-/
import Derived.Test.YtjloddlkleileaaGreatDoorPatM
namespace Go.Proofs.YtjloddlkleileaaGreatDoor
open Go.RowKit
set_option linter.unusedVariables false
set_option linter.unusedSimpArgs false

/-- The number of a name's first step; -1: there is none. -/
def findP : List PStepV → UInt8 → Int
  | [], _ => -1
  | x :: r, c => if x.name = c then 0 else if findP r c < 0 then -1 else findP r c + 1
theorem findP_range (l : List PStepV) (c : UInt8) : -1 ≤ findP l c ∧ findP l c < l.length := by
  induction l with
  | nil => simp [findP]
  | cons x r ih =>
    unfold findP
    rw [List.length_cons]
    split
    · omega
    split <;> omega
theorem findP_none {l : List PStepV} {c : UInt8} : findP l c = -1 ↔ ∀ x ∈ l, x.name ≠ c := by
  induction l with
  | nil => simp [findP]
  | cons x r ih =>
    have := findP_range r c
    unfold findP
    by_cases h : x.name = c
    · rw [if_pos h]
      constructor
      · intro e; omega
      · intro e; exact absurd h (e x (by simp))
    · rw [if_neg h]
      by_cases h2 : findP r c < 0
      · rw [if_pos h2]
        have : findP r c = -1 := by omega
        rw [ih] at this
        simp only [List.mem_cons, forall_eq_or_imp]
        exact ⟨fun _ => ⟨h, this⟩, fun _ => trivial⟩
      · rw [if_neg h2]
        constructor
        · intro e; omega
        · intro e
          have := ih.2 fun y hy => e y (by simp [hy])
          omega
theorem findP_at {A B : List PStepV} {x : PStepV} (h : ∀ y ∈ A, y.name ≠ x.name) : findP (A ++ x :: B) x.name = A.length := by
  induction A with
  | nil => simp [findP]
  | cons y A ih =>
    have h1 := h y (by simp)
    rw [List.cons_append, findP, if_neg h1, ih fun z hz => h z (by simp [hz])]
    rw [if_neg (by omega)]
    simp
theorem findP_le {A B : List PStepV} {x : PStepV} : 0 ≤ findP (A ++ x :: B) x.name ∧ findP (A ++ x :: B) x.name ≤ A.length := by
  induction A with
  | nil => simp [findP]
  | cons y A ih =>
    rw [List.cons_append, findP, List.length_cons]
    split
    · omega
    · rw [if_neg (by omega)]
      omega
def stepBad (l : List PStepV) (i : Nat) (x : PStepV) : Int :=
  if ¬ (65 ≤ x.kind ∧ x.kind ≤ 90) ∨ ¬ (97 ≤ x.name ∧ x.name ≤ 122) then 20
  else if findP l x.name < (i : Int) then 21
  else if x.no = true ∧ (i = 0 ∨ i + 1 = l.length) then 23
  else if (x.no = true ∧ (x.min ≠ 1 ∨ x.max ≠ 1)) ∨ x.min < 1 ∨ x.min > x.max ∨ x.max > 4 then 22
  else 0
def noAt (l : List PStepV) (i : Int) : Bool := match l[i.toNat]? with
  | some x => x.no
  | none => false
def condBad (l : List PStepV) (c : PCondV) : Int :=
  if c.op < 0 ∨ c.op > 5 then 20
  else if c.add < -9007199254740992 ∨ c.add > 9007199254740992 then 2
  else if findP l c.left < 0 ∨ (c.right ≠ 0 ∧ findP l c.right < 0) then 21
  else if c.right = 0 then 0
  else if noAt l (min (findP l c.left) (findP l c.right)) = true ∨ (noAt l (max (findP l c.left) (findP l c.right)) = true ∧ findP l c.left = findP l c.right) then 23
  else 0
/-- The document's look at a condition. -/
def condBad2 (l : List PStepV) (c : PCondV) : Int :=
  if c.op < 0 ∨ c.op > 5 then 20
  else if c.add > 9007199254740992 ∨ c.add < -9007199254740992 then 2
  else if findP l c.left < 0 then 21
  else if c.right = 0 then 0
  else if findP l c.right < 0 then 21
  else if noAt l (findP l c.left) = true ∧ (noAt l (findP l c.right) = true ∨ findP l c.right ≥ findP l c.left) then 23
  else if noAt l (findP l c.right) = true ∧ (noAt l (findP l c.left) = true ∨ findP l c.left ≥ findP l c.right) then 23
  else 0
theorem condBad_eq (l : List PStepV) (c : PCondV) : condBad2 l c = condBad l c := by
  unfold condBad condBad2
  by_cases h1 : c.op < 0 ∨ c.op > 5
  · rw [if_pos h1, if_pos h1]
  rw [if_neg h1, if_neg h1]
  by_cases h2 : c.add < -9007199254740992 ∨ c.add > 9007199254740992
  · rw [if_pos h2, if_pos (by omega)]
  rw [if_neg h2, if_neg (by omega)]
  by_cases h3 : findP l c.left < 0
  · rw [if_pos h3, if_pos (.inl h3)]
  rw [if_neg h3]
  by_cases h4 : c.right = 0
  · have hn : ¬ (findP l c.left < 0 ∨ (c.right ≠ 0 ∧ findP l c.right < 0)) := fun h => h.elim h3 fun h => h.1 h4
    rw [if_pos h4, if_neg hn, if_pos h4]
  rw [if_neg h4]
  by_cases h5 : findP l c.right < 0
  · rw [if_pos h5, if_pos (.inr ⟨h4, h5⟩)]
  have hn : ¬ (findP l c.left < 0 ∨ (c.right ≠ 0 ∧ findP l c.right < 0)) := fun h => h.elim h3 fun h => h5 h.2
  rw [if_neg h5, if_neg hn, if_neg h4]
  clear hn
  generalize findP l c.left = L at *
  generalize findP l c.right = R at *
  rcases Int.lt_trichotomy L R with h | h | h
  · rw [Int.min_eq_left (by omega), Int.max_eq_right (by omega)]
    generalize noAt l L = A
    generalize noAt l R = B
    have h1 : ¬ L = R := by omega
    have h2 : R ≥ L := by omega
    have h3 : ¬ L ≥ R := by omega
    cases A <;> cases B <;> simp [h1, h2, h3]
  · subst h
    rw [Int.min_self, Int.max_self]
    generalize noAt l L = A
    cases A <;> simp
  · rw [Int.min_eq_right (by omega), Int.max_eq_left (by omega)]
    generalize noAt l L = A
    generalize noAt l R = B
    have h1 : ¬ L = R := by omega
    have h2 : ¬ R ≥ L := by omega
    have h3 : L ≥ R := by omega
    cases A <;> cases B <;> simp [h1, h2, h3]
/-- The first step that is wrong, from a place on; else the sum of what the positive ones take. -/
def stepsBad (l : List PStepV) : Nat → List PStepV → Int → (Nat × Int) ⊕ Int
  | _, [], n => .inr n
  | i, x :: r, n => if stepBad l i x ≠ 0 then .inl (i, stepBad l i x) else stepsBad l (i + 1) r (if x.no then n else n + x.max)
def condsBad (l : List PStepV) : Nat → List PCondV → Nat × Int
  | _, [] => (0, 0)
  | i, c :: r => if condBad l c ≠ 0 then (i, condBad l c) else condsBad l (i + 1) r
def checkP (p : PatV) : Nat × Int :=
  if p.steps.length < 1 ∨ p.steps.length > 8 ∨ p.conds.length > 16 then (0, 24)
  else if p.within < 0 ∨ p.within > 9007199254740992 then (0, 2)
  else match stepsBad p.steps 0 p.steps 0 with
    | .inl e => e
    | .inr n => if n > 16 then (0, 24) else condsBad p.steps p.steps.length p.conds
end Go.Proofs.YtjloddlkleileaaGreatDoor
