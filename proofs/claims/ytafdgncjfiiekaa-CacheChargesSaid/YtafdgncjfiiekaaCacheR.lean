/-
  The cache's list: what is taken out, and what is left. Plain lemmas; no program's text.
-/
import Derived.Test.YtafdgncjfiiekaaCacheG
namespace Go.Proofs.Ytafdgncjfiiekaa
open Go.RowKit
set_option linter.unusedVariables false

/-- The nodes of L but those of E. -/
def rem (L E : List Node) : List Node := L.filter fun x => !(E.any fun y => y.id == x.id)
/-- The budget when those of E are given back. -/
def bdrop (B : Bud) (E : List Node) : Bud := E.foldl (fun B x => (B.release 1 (costOf x)).2) B

theorem rem_nil (L : List Node) : rem L [] = L := by simp [rem]
theorem rem_snoc (L E : List Node) (x : Node) : rem L (E ++ [x]) = (rem L E).filter fun y => !(x.id == y.id) := by
  unfold rem
  rw [List.filter_filter]
  congr 1
  funext y
  simp [List.any_append, Bool.and_comm]
theorem rem_mid {A M : List Node} {x : Node} (h : Apart (A ++ x :: M)) : ((A ++ x :: M).filter fun y => !(x.id == y.id)) = A ++ M := by
  obtain ⟨hA, hM, _⟩ := h.mid
  have f1 : ∀ l : List Node, (∀ y ∈ l, y.id ≠ x.id) → (l.filter fun y => !(x.id == y.id)) = l := fun l hl => by
    rw [List.filter_eq_self]
    intro y hy
    have := hl y hy
    simp; omega
  rw [List.filter_append, List.filter_cons, f1 A hA, f1 M hM]
  simp
theorem Apart.sub {L M : List Node} (h : Apart L) (hs : M.Sublist L) : Apart M := List.Pairwise.sublist hs h
theorem rem_sub (L E : List Node) : (rem L E).Sublist L := List.filter_sublist
theorem mem_rem {L E : List Node} {x : Node} : x ∈ rem L E ↔ x ∈ L ∧ ∀ y ∈ E, y.id ≠ x.id := by
  simp [rem, List.mem_filter]

theorem pick_sub (n : Int) : ∀ (l : Int) (L : List Node), (pick n l L).1.Sublist L
  | l, [] => by simp [pick]
  | l, x :: xs => by
    unfold pick
    split
    · exact (pick_sub n _ xs).cons_cons x
    · exact (pick_sub n _ xs).cons x
theorem ofFile_sub (f : Int) (L : List Node) : (ofFile f L).Sublist L := List.filter_sublist

theorem len_of_total {L : List Node} (h : total L ≤ 1099511627776) : L.length ≤ 17179869184 := by
  have : ∀ L : List Node, 64 * (L.length : Int) ≤ total L := by
    intro L
    induction L with
    | nil => simp [total]
    | cons x xs ih => have := costOf_pos x; simp only [total, List.length_cons]; omega
  have := this L
  omega

/-- Shrink, as a function: is so much given back; what is left; the budget. -/
def shrink (L : List Node) (B : Bud) (n : Int) : Bool × List Node × Bud :=
  if (pick n (B.l - B.u) L).2 < n then (false, L, B) else (true, rem L (pick n (B.l - B.u) L).1, bdrop B (pick n (B.l - B.u) L).1)

theorem pick_total (n : Int) : ∀ (l : Int) (L : List Node), (pick n l L).2 = l + total (pick n l L).1
  | l, [] => by simp [pick, total]
  | l, x :: xs => by
    unfold pick
    split
    · simp only [total]
      rw [pick_total n _ xs]
      omega
    · exact pick_total n l xs
theorem total_sub {L M : List Node} (h : M.Sublist L) : total M ≤ total L := by
  induction h with
  | slnil => exact Int.le_refl _
  | cons x _ ih => have := costOf_pos x; simp only [total]; omega
  | cons_cons x _ ih => simp only [total]; omega
theorem Bud.put1 (B : Bud) (y : Int) : (B.put 1 y).l = B.l ∧ (B.put 1 y).u = B.u - B.b + y ∧ (B.put 1 y).a = B.a ∧ (B.put 1 y).b = y ∧ (B.put 1 y).c = B.c ∧ (B.put 1 y).d = B.d := by
  simp [Bud.put, Bud.of]
/-- What is left of the budget when those of D are given back. -/
theorem bdrop_facts : ∀ (D : List Node) (B : Bud), B.Good → total D ≤ B.b → (bdrop B D).Good ∧ (bdrop B D).l = B.l ∧ (bdrop B D).u = B.u - total D ∧ (bdrop B D).b = B.b - total D ∧ (bdrop B D).a = B.a ∧ (bdrop B D).c = B.c ∧ (bdrop B D).d = B.d ∧ (bdrop B D).h = B.h
  | [], B, g, _ => by simp [bdrop, total]; exact g
  | x :: xs, B, g, h => by
    have hx := costOf_pos x
    have hxs := total_nonneg xs
    simp only [total] at h
    have e := Bud.release_b (B := B) (k := costOf x) (by omega) (by omega)
    have g1 : (B.release 1 (costOf x)).2.Good := B.release_good g 1 _
    rw [e] at g1
    obtain ⟨p1, p2, p3, p4, p5, p6⟩ := B.put1 (B.b - costOf x)
    have ph : (B.put 1 (B.b - costOf x)).h = B.h := by
      have := (B.put_u (k := 1) (x := B.b - costOf x) (by omega) (by omega)).2
      rw [this, if_neg]
      have := g.uh
      have : B.of 1 = B.b := rfl
      omega
    obtain ⟨r0, r1, r2, r3, r4, r5, r6, r7⟩ := bdrop_facts xs (B.put 1 (B.b - costOf x)) g1 (by omega)
    have e2 : bdrop B (x :: xs) = bdrop (B.put 1 (B.b - costOf x)) xs := by
      unfold bdrop
      rw [List.foldl_cons, e]
    rw [e2]
    simp only [total]
    refine ⟨r0, by omega, by omega, by omega, by omega, by omega, by omega, by omega⟩
theorem Apart.rem {L E : List Node} (h : Apart L) : Apart (rem L E) := h.sub (rem_sub L E)
theorem total_rem {L D : List Node} (h : Apart L) (hD : D.Sublist L) : total (rem L D) = total L - total D := by
  induction hD with
  | slnil => simp [Go.Proofs.Ytafdgncjfiiekaa.rem, total]
  | @cons l₁ l₂ x hs ih =>
    unfold Apart at h
    rw [List.pairwise_cons] at h
    have h1 : rem (x :: l₂) l₁ = x :: rem l₂ l₁ := by
      unfold Go.Proofs.Ytafdgncjfiiekaa.rem
      rw [List.filter_cons, if_pos]
      simp only [Bool.not_eq_true', List.any_eq_false, beq_iff_eq]
      exact fun y hy e => h.1 y (hs.subset hy) e.symm
    rw [h1]
    simp only [total]
    rw [ih h.2]
    omega
  | @cons_cons l₁ l₂ x hs ih =>
    unfold Apart at h
    rw [List.pairwise_cons] at h
    have h1 : rem (x :: l₂) (x :: l₁) = rem l₂ l₁ := by
      unfold Go.Proofs.Ytafdgncjfiiekaa.rem
      rw [List.filter_cons, if_neg (by simp)]
      apply List.filter_congr
      intro y hy
      have := h.1 y hy
      simp [this]
    rw [h1]
    simp only [total]
    rw [ih h.2]
    omega

/-- Is a key in the list? -/
def hasKey (L : List Node) (f b : Int) : Bool := L.any fun x => x.file == f && x.blk == b
theorem hasKey_true {L : List Node} {f b : Int} (h : hasKey L f b = true) : ∃ x ∈ L, x.file = f ∧ x.blk = b := by
  unfold hasKey at h
  rw [List.any_eq_true] at h
  obtain ⟨x, hx, e⟩ := h
  simp at e
  exact ⟨x, hx, e⟩
theorem hasKey_false {L : List Node} {f b : Int} (h : hasKey L f b = false) : ∀ x ∈ L, ¬ (x.file = f ∧ x.blk = b) := by
  unfold hasKey at h
  rw [List.any_eq_false] at h
  intro x hx e
  have := h x hx
  simp at this
  exact this e.1 e.2
/-- Put: what it answers, what is kept, the budget; the new node lies at i. -/
def putM (L : List Node) (B : Bud) (f b : Int) (s : ByteArray) (i : Nat) : Int × List Node × Bud :=
  if hasKey L f b then (11, L, B) else
  if (shrink L B (64 + (s.size : Int))).1 then (0, (shrink L B (64 + (s.size : Int))).2.1 ++ [⟨i, f, b, s, 0⟩], ((shrink L B (64 + (s.size : Int))).2.2.reserve 1 (64 + (s.size : Int))).2) else (14, L, B)
/-- Behind a Shrink that went well there is room. -/
theorem shrink_room {L : List Node} {B : Bud} {n : Int} (g : B.Good) (ht : B.b = total L) (h : (shrink L B n).1 = true) :
    n ≤ (shrink L B n).2.2.l - (shrink L B n).2.2.u ∧ (shrink L B n).2.2.Good ∧ (shrink L B n).2.2.b = total (shrink L B n).2.1 ∨ ¬ Apart L := by
  by_cases hA : Apart L
  · refine .inl ?_
    unfold shrink at *
    by_cases hp : (pick n (B.l - B.u) L).2 < n
    · rw [if_pos hp] at h; simp at h
    · rw [if_neg hp]
      simp only
      have hs := pick_sub n (B.l - B.u) L
      have hpt := pick_total n (B.l - B.u) L
      have hts := total_sub hs
      obtain ⟨r0, r1, r2, r3, _⟩ := bdrop_facts (pick n (B.l - B.u) L).1 B g (by rw [ht]; exact hts)
      rw [total_rem hA hs]
      exact ⟨by omega, r0, by omega⟩
  · exact .inr hA
theorem shrink_no {L : List Node} {B : Bud} {n : Int} (h : (shrink L B n).1 = false) : shrink L B n = (false, L, B) := by
  unfold shrink at *
  split
  · rfl
  · rename_i hp; rw [if_neg hp] at h; simp at h
theorem shrink_sub (L : List Node) (B : Bud) (n : Int) : (shrink L B n).2.1.Sublist L := by
  unfold shrink
  split
  · exact List.Sublist.refl _
  · exact rem_sub _ _
end Go.Proofs.Ytafdgncjfiiekaa
