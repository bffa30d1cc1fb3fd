/-
  The tables of a job, taken out of a version: their hull, step by step, and that the job's edit can be. Plain lemmas; no condition.
-/
import Derived.Test.YtkhgfmmcjoglkaaPickN
import Derived.Test.YtkhgfmmcjoglkaaPickA
import Derived.Test.YtkhgfmmcjoglkaaVerR
namespace Go.Proofs.Ytkhgfmmcjoglkaa
set_option linter.unusedVariables false
set_option linter.unusedSimpArgs false

def upToM (S : VerV) : Nat → List MetaV
  | 0 => []
  | k + 1 => upToM S k ++ S.lv k
theorem upToM_all (S : VerV) : upToM S 4 = allM S := by simp [upToM, allM]
def loS : List MetaV → ByteArray
  | [] => ⟨#[]⟩
  | q :: Q => loF q.lo (q :: Q)
def hiS : List MetaV → ByteArray
  | [] => ⟨#[]⟩
  | q :: Q => hiF q.hi (q :: Q)
theorem loS_one (m : MetaV) : loS [m] = smin m.lo m.lo := rfl
theorem hiS_one (m : MetaV) : hiS [m] = smax m.hi m.hi := rfl
theorem loS_snoc (q : MetaV) (Q : List MetaV) (m : MetaV) : loS (q :: Q ++ [m]) = smin (loS (q :: Q)) m.lo := loF_snoc q.lo (q :: Q) m
theorem hiS_snoc (q : MetaV) (Q : List MetaV) (m : MetaV) : hiS (q :: Q ++ [m]) = smax (hiS (q :: Q)) m.hi := hiF_snoc q.hi (q :: Q) m
theorem taken_yes (D : List Int) (l : List MetaV) (m : MetaV) (h : D.count m.file ≠ 0) : takenM D (l ++ [m]) = takenM D l ++ [m] := by
  have : m.file ∈ D := Classical.byContradiction fun hn => h (List.count_eq_zero.2 hn)
  unfold takenM
  rw [List.filter_append]
  simp [this]
theorem taken_no (D : List Int) (l : List MetaV) (m : MetaV) (h : D.count m.file = 0) : takenM D (l ++ [m]) = takenM D l := by
  have : m.file ∉ D := List.count_eq_zero.1 h
  unfold takenM
  rw [List.filter_append]
  simp [this]
theorem overs_mem {S : VerV} {k : Nat} (hk : k < 3) {lo hi : ByteArray} : oversV S ((k : Int) + 1) lo hi = (S.lv (k + 1)).filter (overB lo hi) := by
  unfold oversV
  rw [if_pos (by omega)]
  have : ((k : Int) + 1).toNat = k + 1 := by omega
  rw [this]
theorem lv_all {S : VerV} {k : Nat} (hk : k < 4) {m : MetaV} (hm : m ∈ S.lv k) : m ∈ allM S := by
  unfold allM
  match k, hk with
  | 0, _ => simp [hm]
  | 1, _ => simp [hm]
  | 2, _ => simp [hm]
  | 3, _ => simp [hm]
theorem job_in {S : VerV} {k : Nat} (hk : k < 3) {x : MetaV} {fr TO : List MetaV} (hsub : (x :: fr).Sublist (S.lv k)) (hTO : oversV S ((k : Int) + 1) (loF x.lo (x :: fr)) (hiF x.hi (x :: fr)) = TO) :
    ∀ m ∈ (x :: fr) ++ TO, m ∈ allM S := fun m hm => by
  rcases List.mem_append.1 hm with hm | hm
  · exact lv_all (by omega) (hsub.subset hm)
  · rw [← hTO, overs_mem hk] at hm
    exact lv_all (by omega) (List.mem_filter.1 hm).1
theorem job_some {S : VerV} {k : Nat} (hk : k < 3) {x : MetaV} {fr TO : List MetaV} (hsub : (x :: fr).Sublist (S.lv k)) (hTO : oversV S ((k : Int) + 1) (loF x.lo (x :: fr)) (hiF x.hi (x :: fr)) = TO) :
    ∃ q Q, takenM (((x :: fr) ++ TO).map (·.file)) (allM S) = q :: Q := by
  have h := taken_of (job_in hk hsub hTO) (m := x) (by simp)
  cases hq : takenM (((x :: fr) ++ TO).map (·.file)) (allM S) with
  | nil => rw [hq] at h; cases h
  | cons q Q => exact ⟨q, Q, rfl⟩
theorem job_fits {S : VerV} (hS : Good S) (hlog : 0 ≤ S.log) (hnx : 0 ≤ S.next) {k : Nat} (hk : k < 3) {x : MetaV} {fr TO : List MetaV} (hsub : (x :: fr).Sublist (S.lv k)) (hTO : oversV S ((k : Int) + 1) (loF x.lo (x :: fr)) (hiF x.hi (x :: fr)) = TO) :
    okV S (jobE S k (((x :: fr) ++ TO).map (·.file)) (loS (takenM (((x :: fr) ++ TO).map (·.file)) (allM S))) (hiS (takenM (((x :: fr) ++ TO).map (·.file)) (allM S)))) := by
  obtain ⟨q, Q, hQ⟩ := job_some hk hsub hTO
  obtain ⟨h1, h2, h3⟩ := taken_hull hS (job_in hk hsub hTO) hQ
  rw [hQ]
  refine job_ok hS hlog hnx hk hsub (by simp) (a := loF x.lo (x :: fr)) (b := hiF x.hi (x :: fr)) (fun m hm => (loF_le (x :: fr) x.lo).2 m hm) (fun m hm => (hiF_ge (x :: fr) x.hi).2 m hm) (by rw [← hTO, overs_mem hk]; rfl) h1 h2 h3
end Go.Proofs.Ytkhgfmmcjoglkaa
