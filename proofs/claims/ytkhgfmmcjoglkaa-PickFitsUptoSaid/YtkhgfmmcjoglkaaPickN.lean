/-
  The tables of a job among all tables, and their hull: plain facts. Plain Lean; no program; no condition.
-/
import Derived.Test.YtkhgfmmcjoglkaaPickM
namespace Go.Proofs.Ytkhgfmmcjoglkaa
set_option linter.unusedVariables false
set_option linter.unusedSimpArgs false

def allM (S : VerV) : List MetaV := S.lv 0 ++ (S.lv 1 ++ (S.lv 2 ++ S.lv 3))
theorem allM_files (S : VerV) : (allM S).map (·.file) = filesOf (flat S) := by
  simp [allM, filesOf, flat, atLevel, Function.comp_def]
theorem map_inj {l : List MetaV} (h : (l.map (·.file)).Nodup) {m t : MetaV} (hm : m ∈ l) (ht : t ∈ l) (e : m.file = t.file) : m = t := by
  induction l with
  | nil => cases hm
  | cons x r ih =>
    rw [List.map_cons, List.nodup_cons] at h
    rcases List.mem_cons.1 hm with e1 | hm' <;> rcases List.mem_cons.1 ht with e2 | ht'
    · exact e1.trans e2.symm
    · exact absurd (List.mem_map.2 ⟨t, ht', by rw [← e, e1]⟩) h.1
    · exact absurd (List.mem_map.2 ⟨m, hm', by rw [e, e2]⟩) h.1
    · exact ih h.2 hm' ht'
/-- What is taken of some tables. -/
def takenM (D : List Int) (l : List MetaV) : List MetaV := l.filter fun m => D.contains m.file
theorem taken_in {S : VerV} (h : Good S) {T : List MetaV} (hT : ∀ m ∈ T, m ∈ allM S) {m : MetaV} (hm : m ∈ takenM (T.map (·.file)) (allM S)) : m ∈ T := by
  obtain ⟨h1, h2⟩ := List.mem_filter.1 hm
  have h3 : m.file ∈ T.map (·.file) := by simpa using h2
  obtain ⟨t, ht, e⟩ := List.mem_map.1 h3
  have hn : ((allM S).map (·.file)).Nodup := by rw [allM_files]; exact h.files
  rw [map_inj hn h1 (hT t ht) e.symm]
  exact ht
theorem taken_of {S : VerV} {T : List MetaV} (hT : ∀ m ∈ T, m ∈ allM S) {m : MetaV} (hm : m ∈ T) : m ∈ takenM (T.map (·.file)) (allM S) :=
  List.mem_filter.2 ⟨hT m hm, by simpa using ⟨m, hm, rfl⟩⟩
/-- The hull of what is taken. -/
theorem taken_hull {S : VerV} (h : Good S) {T : List MetaV} (hT : ∀ m ∈ T, m ∈ allM S) {q : MetaV} {Q : List MetaV} (hQ : takenM (T.map (·.file)) (allM S) = q :: Q) :
    (∃ m ∈ T, loF q.lo (q :: Q) = m.lo) ∧ (∃ m ∈ T, hiF q.hi (q :: Q) = m.hi) ∧ le_ (loF q.lo (q :: Q)) (hiF q.hi (q :: Q)) := by
  have hin : ∀ m ∈ q :: Q, m ∈ T := fun m hm => taken_in h hT (by rw [hQ]; exact hm)
  have hend : ∀ m ∈ T, le_ m.lo m.hi := fun m hm => by
    have := hT m hm
    unfold allM at this
    simp only [List.mem_append] at this
    rcases this with h0 | h0 | h0 | h0
    · exact (h.ends 0 (by omega) m h0).1
    · exact (h.ends 1 (by omega) m h0).1
    · exact (h.ends 2 (by omega) m h0).1
    · exact (h.ends 3 (by omega) m h0).1
  refine ⟨?_, ?_, ?_⟩
  · rcases loF_mem (q :: Q) q.lo with e | ⟨m, hm, e⟩
    · exact ⟨q, hin q (by simp), e⟩
    · exact ⟨m, hin m hm, e⟩
  · rcases hiF_mem (q :: Q) q.hi with e | ⟨m, hm, e⟩
    · exact ⟨q, hin q (by simp), e⟩
    · exact ⟨m, hin m hm, e⟩
  · exact le_trans_ ((loF_le (q :: Q) q.lo).2 q (by simp)) (le_trans_ (hend q (hin q (by simp))) ((hiF_ge (q :: Q) q.hi).2 q (by simp)))
end Go.Proofs.Ytkhgfmmcjoglkaa
