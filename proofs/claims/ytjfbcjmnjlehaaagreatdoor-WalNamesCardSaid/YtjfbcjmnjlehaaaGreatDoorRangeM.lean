/-
  Sums over a map's entries, in whatever order they come. Plain lemmas.
-/
import Derived.Test.YtjfbcjmnjlehaaaGreatDoorMap
import Derived.Laws.IdiomRangeMap
namespace Go.Proofs.YtjfbcjmnjlehaaaGreatDoor
open Go.RowKit
set_option linter.unusedVariables false
set_option linter.unusedSimpArgs false

/-- The sum of g over the entries that have been seen. -/
def seenG (g : MapEntry → Int) (seen : Array Nat) : List MapEntry → Int
  | [] => 0
  | e :: es => (if seen.contains e.born then g e else 0) + seenG g seen es
theorem seenG_none (g : MapEntry → Int) : ∀ es : List MapEntry, seenG g #[] es = 0
  | [] => rfl
  | e :: es => by simp [seenG, seenG_none g es]
theorem seenG_other (g : MapEntry → Int) (seen : Array Nat) (b : Nat) : ∀ es : List MapEntry, (∀ e ∈ es, e.born ≠ b) → seenG g (seen.push b) es = seenG g seen es
  | [], _ => rfl
  | e :: es, h => by
    have h1 := h e (by simp)
    unfold seenG
    rw [seenG_other g seen b es fun x hx => h x (by simp [hx])]
    simp [Array.contains_push, h1]
theorem seenG_push (g : MapEntry → Int) (seen : Array Nat) (e : MapEntry) (hs : seen.contains e.born = false) : ∀ es : List MapEntry, (es.Pairwise fun a b => a.born ≠ b.born) → e ∈ es → seenG g (seen.push e.born) es = seenG g seen es + g e
  | [], _, h => by cases h
  | x :: es, hp, h => by
    rw [List.pairwise_cons] at hp
    unfold seenG
    rcases List.mem_cons.1 h with rfl | h
    · rw [seenG_other g seen e.born es fun y hy => (hp.1 y hy).symm]
      have h1 : (seen.push e.born).contains e.born = true := by simp
      rw [h1, hs]
      simp
      omega
    · rw [seenG_push g seen e hs es hp.2 h]
      have := hp.1 e h
      simp [Array.contains_push, this]; omega
theorem seenG_full (g : MapEntry → Int) (seen : Array Nat) : ∀ es : List MapEntry, (∀ x ∈ es, seen.contains x.born = true) → seenG g seen es = (es.map g).sum
  | [], _ => rfl
  | e :: es, h => by
    unfold seenG
    rw [h e (by simp), seenG_full g seen es fun x hx => h x (by simp [hx])]
    simp
theorem seenG_le (g : MapEntry → Int) (B : Int) (seen : Array Nat) : ∀ es : List MapEntry, (∀ x ∈ es, 0 ≤ g x ∧ g x ≤ B) → 0 ≤ B → 0 ≤ seenG g seen es ∧ seenG g seen es ≤ B * es.length
  | [], _, _ => by simp [seenG]
  | e :: es, h, hB => by
    obtain ⟨a, b⟩ := seenG_le g B seen es (fun x hx => h x (by simp [hx])) hB
    obtain ⟨c, d⟩ := h e (by simp)
    unfold seenG
    rw [List.length_cons, Int.natCast_succ, Int.mul_add, Int.mul_one]
    split <;> omega
end Go.Proofs.YtjfbcjmnjlehaaaGreatDoor
