/-
  What is wrong with a text is never a loss of power; plain.
-/
import Derived.Test.YtjloddlkleileaaGreatDoorPlnN
namespace Go.Proofs.YtjloddlkleileaaGreatDoor
open Go.RowKit
set_option linter.unusedVariables false
set_option linter.unusedSimpArgs false

def Np {α : Type} (r : PRes α) : Prop := ∀ e : Int, r = .inr e → e ≠ 13
theorem np_ok {α : Type} (x : α) (k : Nat) : Np (.inl (x, k) : PRes α) := fun e h => by cases h
theorem np_no {α : Type} {c : Int} (h : c ≠ 13) : Np (.inr c : PRes α) := fun e h' => by injection h' with h'; rw [← h']; exact h
theorem np_bind {α β : Type} {r : PRes α} {f : α → Nat → PRes β} (h : Np r) (hf : ∀ x k, Np (f x k)) : Np (r.bind f) := by
  cases r with
  | inl p => exact hf p.1 p.2
  | inr c => exact np_no (h c rfl)
theorem np_ite {α : Type} {c : Prop} [Decidable c] {a b : PRes α} (h1 : Np a) (h2 : Np b) : Np (if c then a else b) := by
  by_cases h : c
  · rw [if_pos h]; exact h1
  · rw [if_neg h]; exact h2
section
variable (s : List UInt8)
theorem np_one (k : Nat) (a b : UInt8) : Np (oneV s k a b) := np_ite (np_ok _ _) (np_no (by decide))
theorem np_word (l : List UInt8) (k : Nat) : Np (wordV s l k) := by
  induction l generalizing k with
  | nil => exact np_ok _ _
  | cons c r ih => exact np_bind (np_one s k c c) fun _ j => ih j
theorem np_number (k : Nat) (b : UInt8) : Np (numberP s k b) := np_bind (np_one s k b 57) fun c j => np_ite (np_ok _ _) (fun e h => by cases h)
theorem np_bounds (x : PStepV) (k : Nat) : Np (stepBounds s x k) :=
  np_bind (np_number s _ _) fun _ _ => np_bind (np_word s _ _) fun _ _ => np_bind (np_number s _ _) fun _ _ => np_bind (np_word s _ _) fun _ _ => np_ite (np_no (by decide)) (np_ok _ _)
theorem np_many (k : Nat) : stepMany s k ≠ 13 := by unfold stepMany; split <;> first | decide | (split <;> decide)
theorem np_cmany (k : Nat) : condMany s k ≠ 13 := by unfold condMany; split <;> decide
theorem np_step (k ahead : Nat) : Np (stepP s k ahead) :=
  np_ite (np_no (np_many s k)) (np_bind (np_one s _ _ _) fun _ _ => np_bind (np_word s _ _) fun _ _ => np_bind (np_one s _ _ _) fun _ _ => np_ite (np_ite (np_no (by decide)) (np_bounds s _ _)) (np_ok _ _))
theorem np_op (k : Nat) : Np (opP s k) :=
  np_ite (np_ite (np_ok _ _) (np_ok _ _)) (np_ite (np_ite (np_ok _ _) (np_ok _ _)) (np_ite (np_bind (np_word s _ _) fun _ _ => np_ok _ _) (np_bind (np_word s _ _) fun _ _ => np_ok _ _)))
theorem np_cond (k ahead : Nat) : Np (condP s k ahead) :=
  np_ite (np_no (np_cmany s k)) (np_bind (np_one s _ _ _) fun _ _ => np_bind (np_op s _) fun _ _ =>
    np_ite (np_bind (np_number s _ _) fun _ _ => np_ok _ _) (np_ite (np_bind (np_number s _ _) fun _ _ => np_ok _ _) (np_bind (np_one s _ _ _) fun _ _ =>
      np_ite (np_bind (np_number s _ _) fun _ _ => np_ok _ _) (np_ite (np_bind (np_number s _ _) fun _ _ => np_ok _ _) (np_ok _ _)))))
theorem np_steps (m : Nat) (l : List PStepV) (k : Nat) : Np (stepsV s m l k) := by
  induction m generalizing l k with
  | zero => exact np_ok _ _
  | succ m ih => exact np_ite (np_bind (np_step s _ _) fun _ _ => ih _ _) (np_ok _ _)
theorem np_conds (m : Nat) (l : List PCondV) (k : Nat) : Np (condsV s m l k) := by
  induction m generalizing l k with
  | zero => exact np_ok _ _
  | succ m ih => exact np_ite (np_bind (np_word s _ _) fun _ _ => np_bind (np_cond s _ _) fun _ _ => np_bind (np_word s _ _) fun _ _ => ih _ _) (np_ok _ _)
theorem np_within (a : List PStepV) (b : List PCondV) (k : Nat) : Np (withinP s a b k) := np_bind (np_word s _ _) fun _ _ => np_bind (np_number s _ _) fun _ _ => np_ok _ _
theorem np_where (a : List PStepV) (k : Nat) : Np (whereP s a k) :=
  np_ite (np_bind (np_word s _ _) fun _ _ => np_bind (np_cond s _ _) fun _ _ => np_bind (np_word s _ _) fun _ _ => np_bind (np_conds s _ _ _) fun _ _ => np_bind (np_word s _ _) fun _ _ => np_within s _ _ _) (np_within s _ _ _)
theorem np_pattern : Np (patternP s) :=
  np_bind (np_word s _ _) fun _ _ => np_bind (np_step s _ _) fun _ _ => np_bind (np_steps s _ _ _) fun _ _ => np_bind (np_word s _ _) fun _ _ => np_where s _ _
theorem np_parse {c : Int} (h : parseP s = .inr c) : c ≠ 13 := by
  unfold parseP at h
  split at h
  · injection h with h; rw [← h]; decide
  · split at h
    · rename_i e he
      injection h with h
      exact np_pattern s c (by rw [he, h])
    · split at h
      · injection h with h; rw [← h]; decide
      · cases h
end
theorem np_stepBad (l : List PStepV) (i : Nat) (x : PStepV) : stepBad l i x ≠ 13 := by unfold stepBad; repeat' (first | decide | split)
theorem np_condBad (l : List PStepV) (c : PCondV) : condBad l c ≠ 13 := by unfold condBad; repeat' (first | decide | split)
theorem np_stepsBad (l : List PStepV) (r : List PStepV) (i : Nat) (n : Int) {e : Nat × Int} (h : stepsBad l i r n = .inl e) : e.2 ≠ 13 := by
  induction r generalizing i n with
  | nil => cases h
  | cons x r ih =>
    unfold stepsBad at h
    split at h
    · injection h with h; rw [← h]; exact np_stepBad l i x
    · exact ih _ _ h
theorem np_condsBad (l : List PStepV) (r : List PCondV) (i : Nat) : (condsBad l i r).2 ≠ 13 := by
  induction r generalizing i with
  | nil => exact (by decide : (0 : Int) ≠ 13)
  | cons x r ih =>
    unfold condsBad
    split
    · exact np_condBad l x
    · exact ih _
theorem np_check (p : PatV) : (checkP p).2 ≠ 13 := by
  unfold checkP
  split
  · exact (by decide : (24 : Int) ≠ 13)
  split
  · exact (by decide : (2 : Int) ≠ 13)
  split
  · rename_i e he; exact np_stepsBad _ _ _ _ he
  split
  · exact (by decide : (24 : Int) ≠ 13)
  · exact np_condsBad _ _ _
end Go.Proofs.YtjloddlkleileaaGreatDoor
