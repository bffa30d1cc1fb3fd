/-
  The document's edit that bytes are: Get.
-/
import Derived.Test.YtahahginmgidjaaVarJ
namespace Go.Proofs.Ytahahginmgidjaa
open Go.RowKit
set_option linter.unusedVariables false
set_option linter.unusedSimpArgs false

/-- What is known of the whole edit at a place, or behind an error. -/
def Tie (L : List UInt8) (ed : Nat → EditV ⊕ Int) : Nat ⊕ Int → Prop
  | .inl k => editV L = ed k
  | .inr c => editV L = .inr c
theorem tie_start (L : List UInt8) : Tie L (ed2 L (nextN L (.inl 0)).1) (nextN L (.inl 0)).2 := by
  cases hv : getV L 0 with
  | inl x =>
    have e : nextN L (.inl 0) = (x.1, .inl x.2) := by simp only [nextN, hv]
    rw [e]
    show editV L = _
    rw [editV, hv]
  | inr c =>
    have e : nextN L (.inl 0) = (0, .inr c) := by simp only [nextN, hv]
    rw [e]
    show editV L = _
    rw [editV, hv]
theorem tie_next {L : List UInt8} {ed : Nat → EditV ⊕ Int} {ed' : Int → Nat → EditV ⊕ Int} (h : ∀ k, ed k = match getV L k with | .inl (n, j) => ed' n j | .inr c => .inr c) {st : Nat ⊕ Int} (ht : Tie L ed st) : Tie L (ed' (nextN L st).1) (nextN L st).2 := by
  cases st with
  | inr c => exact ht
  | inl k =>
    have h1 : editV L = ed k := ht
    cases hv : getV L k with
    | inl x =>
      have e : nextN L (.inl k) = (x.1, .inl x.2) := by simp only [nextN, hv]
      rw [e]
      show editV L = _
      rw [h1, h, hv]
    | inr c =>
      have e : nextN L (.inl k) = (0, .inr c) := by simp only [nextN, hv]
      rw [e]
      show editV L = _
      rw [h1, h, hv]
theorem tie_below {L : List UInt8} {most : Int} {ed : Nat → EditV ⊕ Int} {ed' : Int → Nat → EditV ⊕ Int} (h : ∀ k, ed k = match belowV L k most with | .inl (n, j) => ed' n j | .inr c => .inr c) {st : Nat ⊕ Int} (ht : Tie L ed st) : Tie L (ed' (nextB L most st).1) (nextB L most st).2 := by
  cases st with
  | inr c => exact ht
  | inl k =>
    have h1 : editV L = ed k := ht
    cases hv : belowV L k most with
    | inl x =>
      have e : nextB L most (.inl k) = (x.1, .inl x.2) := by simp only [nextB, hv]
      rw [e]
      show editV L = _
      rw [h1, h, hv]
    | inr c =>
      have e : nextB L most (.inl k) = (0, .inr c) := by simp only [nextB, hv]
      rw [e]
      show editV L = _
      rw [h1, h, hv]
theorem nextB_in {L : List UInt8} {most : Int} (h0 : 0 < most) (st : Nat ⊕ Int) : 0 ≤ (nextB L most st).1 ∧ (nextB L most st).1 < most := by
  cases st with
  | inr c => exact ⟨Int.le_refl _, h0⟩
  | inl k =>
    cases hv : belowV L k most with
    | inr c =>
      have e : nextB L most (.inl k) = (0, .inr c) := by simp only [nextB, hv]
      rw [e]
      exact ⟨Int.le_refl _, h0⟩
    | inl x =>
      have e : nextB L most (.inl k) = (x.1, .inl x.2) := by simp only [nextB, hv]
      rw [e]
      unfold belowV at hv
      split at hv
      · split at hv
        · cases hv
        · rename_i hb
          injection hv with hv
          subst hv
          exact ⟨by simp only; omega, by simp only; omega⟩
      · cases hv
/-- A table that is read in five steps. -/
def pl5 (L : List UInt8) (st : Nat ⊕ Int) : PlaceV × (Nat ⊕ Int) :=
  (⟨(nextB L 4 st).1, ⟨(nextN L (nextB L 4 st).2).1, (nextN L (nextN L (nextB L 4 st).2).2).1, ⟨(nextT L (nextN L (nextN L (nextB L 4 st).2).2).2).1.toArray⟩, ⟨(nextT L (nextT L (nextN L (nextN L (nextB L 4 st).2).2).2).2).1.toArray⟩⟩⟩,
    (nextT L (nextT L (nextN L (nextN L (nextB L 4 st).2).2).2).2).2)
theorem pl5_place (L : List UInt8) (k : Nat) : placeV L k = match (pl5 L (.inl k)).2 with
    | .inl j => .inl ((pl5 L (.inl k)).1, j)
    | .inr c => .inr c := by
  unfold placeV pl5
  cases h1 : belowV L k 4 with
  | inr c => simp [nextB, h1, nextN, nextT]
  | inl x =>
    obtain ⟨l, k1⟩ := x
    cases h2 : getV L k1 with
    | inr c => simp [nextB, h1, nextN, h2, nextT]
    | inl x =>
      obtain ⟨f, k2⟩ := x
      cases h3 : getV L k2 with
      | inr c => simp [nextB, h1, nextN, h2, h3, nextT]
      | inl x =>
        obtain ⟨z, k3⟩ := x
        cases h4 : textV L k3 with
        | inr c => simp [nextB, h1, nextN, h2, h3, nextT, h4]
        | inl x =>
          obtain ⟨lo, k4⟩ := x
          cases h5 : textV L k4 with
          | inr c => simp [nextB, h1, nextN, h2, h3, nextT, h4, h5]
          | inl x => simp [nextB, h1, nextN, h2, h3, nextT, h4, h5]
theorem nextT_len (L : List UInt8) (st : Nat ⊕ Int) : (nextT L st).1.length ≤ 65535 := by
  cases st with
  | inr c => simp [nextT]
  | inl k =>
    cases hv : textV L k with
    | inr c => simp [nextT, hv]
    | inl x =>
      have e : nextT L (.inl k) = (x.1, .inl x.2) := by simp only [nextT, hv]
      rw [e]
      unfold textV at hv
      split at hv
      · cases hv
      · split at hv
        · cases hv
        · split at hv
          · cases hv
          · split at hv
            · cases hv
            · injection hv with hv
              subst hv
              simp
              omega
/-- How the document's Get ends. -/
def EditAt2 (w' : World) (s : List UInt8) (e : Ending) : Prop := match editV s with
  | .inl E => ∃ av dv, e = .returned (.tuple #[.agg #[av, dv, .int .i64 E.log, .int .i64 E.next, .int .i64 E.seq], .int .i64 0]) ∧ Lst docC w' av E.add ∧ Lst i64C w' dv E.drop
  | .inr c => c ≠ 0 ∧ e = .returned (.tuple #[.agg #[.slice none 0 0, .slice none 0 0, .int .i64 0, .int .i64 0, .int .i64 0], .int .i64 c])
end Go.Proofs.Ytahahginmgidjaa
