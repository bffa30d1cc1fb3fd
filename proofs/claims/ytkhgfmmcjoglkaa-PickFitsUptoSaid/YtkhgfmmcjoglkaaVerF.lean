/-
  The document's version: Apply.
-/
import Derived.Test.YtkhgfmmcjoglkaaVerD
import Derived.Deep.DeepCutAuto
namespace Go.Proofs.Ytkhgfmmcjoglkaa
open Go.RowKit
set_option linter.unusedVariables false
set_option linter.unusedSimpArgs false

/-- What the document's Apply answers: the version behind the edit, or the error and no version. -/
def DApplyPost (w : World) (S : VerV) (E : EditV) (e : Ending) (w' : World) : Prop :=
  Chg (fun _ => False) w w' ∧
  ((okV S E ∧ ∃ v, e = .returned (.tuple #[.agg #[v, .int .i64 E.log, .int .i64 E.next, .int .i64 E.seq], .int .i64 0]) ∧ Lst docC w' v (flat (nextV S E)) ∧ ∀ k, v.ownBlock = some k → w.heap.size ≤ k) ∨
   (¬ okV S E ∧ e = .returned (.tuple #[.agg #[.slice none 0 0, .int .i64 0, .int .i64 0, .int .i64 0], .int .i64 17])))
theorem hasB_iff (l : List Int) (n : Int) : hasB l n = true ↔ n ∈ l := by simp [hasB]
theorem hasB_no (l : List Int) (n : Int) : hasB l n = false ↔ n ∉ l := by rw [← hasB_iff]; simp

theorem fold_with_len : ∀ (A K : List PlaceV), (A.foldl withV K).length ≤ K.length + A.length
  | [], K => by simp
  | p :: A, K => by
    have h1 := fold_with_len A (withV K p)
    have h2 : (withV K p).length = K.length + 1 := (insG_perm p K).length_eq
    rw [List.foldl_cons, List.length_cons]
    omega

/-- No table clashes with an earlier one: of the first m; of the m-th with the first n. -/
def PairsUp (M : List PlaceV) (m : Nat) : Prop := ∀ i k a b, i < m → k < i → M[i]? = some a → M[k]? = some b → ¬ clash a b
def RowUp (M : List PlaceV) (m n : Nat) : Prop := ∀ k a b, k < n → M[m]? = some a → M[k]? = some b → ¬ clash a b
theorem PairsUp.next {M : List PlaceV} {m : Nat} (h : PairsUp M m) (hr : RowUp M m m) : PairsUp M (m + 1) := fun i k a b hi hk ha hb => by
  by_cases e : i = m
  · subst e; exact hr k a b hk ha hb
  · exact h i k a b (by omega) hk ha hb
theorem RowUp.next {M : List PlaceV} {m n : Nat} (h : RowUp M m n) {a b : PlaceV} (ha : M[m]? = some a) (hb : M[n]? = some b) (hc : ¬ clash a b) : RowUp M m (n + 1) := fun k x y hk hx hy => by
  by_cases e : k = n
  · subst e
    rw [ha] at hx; rw [hb] at hy
    cases hx; cases hy
    exact hc
  · exact h k x y (by omega) hx hy
theorem pairs_ok {S : VerV} {E : EditV} {M : List PlaceV} (hM : M = flat (nextV S E)) (h : PairsUp M M.length) : ∀ i, 1 ≤ i → i < 4 → ((nextV S E).lv i).Pairwise Apart := by
  refine (flat_pairs _).1 ?_
  rw [← flat_eq, ← hM, List.pairwise_iff_getElem]
  intro i j hi hj hij
  exact h j i _ _ hj hij (List.getElem?_eq_getElem hj) (List.getElem?_eq_getElem hi)
theorem pairs_no {S : VerV} {E : EditV} {M : List PlaceV} (hM : M = flat (nextV S E)) {i k : Nat} {a b : PlaceV} (hk : k < i) (ha : M[i]? = some a) (hb : M[k]? = some b) (hc : clash a b) : ¬ okV S E := fun ho => by
  have := (flat_pairs _).2 ho.2.2.2
  rw [← flat_eq, ← hM, List.pairwise_iff_getElem] at this
  obtain ⟨h1, rfl⟩ := List.getElem?_eq_some_iff.1 ha
  obtain ⟨h2, rfl⟩ := List.getElem?_eq_some_iff.1 hb
  exact this k i h2 h1 hk hc

end Go.Proofs.Ytkhgfmmcjoglkaa
