/-
  What is synced lasts, plain law: behind a loss of power the file is what was synced and a beginning of the rest.
-/
import Derived.Test.YtlcggocfkanblaaDiskP
import Derived.Test.YtlcggocfkanblaaDiskX
namespace Go.Proofs.Ytlcggocfkanblaa
open Go.RowKit Go.Sort
set_option linter.unusedVariables false
set_option linter.unusedSimpArgs false

def sB : ByteArray := ⟨#[98]⟩
def lsZ4 (F M : ByteArray) : DiskV := ⟨rnRoom, [⟨F ++ M, F.size⟩], [(sA, 0)], [(sA, 0)], [], 0, 0, [], 0, false⟩
def lsZ5 (F M : ByteArray) : DiskV := ⟨rnRoom, [⟨F ++ M, F.size⟩, ⟨⟨#[]⟩, 0⟩], [(sA, 0), (sB, 1)], [(sA, 0)], [[(sB, some 1)]], 0, 0, [], 0, false⟩
theorem ls_append (F M : ByteArray) (hF : F.size ≤ 1000) (hM : M.size ≤ 1000) : appendD (rnY0 F 0 0 []) sA M = (0, lsZ4 F M) := by
  have hl : look (rnY0 F 0 0 []).names sA = some 0 := by
    have : (rnY0 F 0 0 []).names = [(sA, 0)] := rfl
    rw [this]; decide +kernel
  have hd : (dataOf (rnY0 F 0 0 []) 0).size = F.size := rfl
  have hu : usedD (rnY0 F 0 0 []) = F.size := by
    show ((F.size : Int) + 0) = _
    omega
  have hr : (rnY0 F 0 0 []).room = 1099511627776 := rfl
  unfold appendD
  rw [if_neg (by simp [rnY0]), hl]
  simp only
  rw [if_neg (by rw [hd, hu, hr]; omega)]
  rfl
theorem ls_create (F M : ByteArray) : createD (lsZ4 F M) sB = (0, lsZ5 F M) := by with_unfolding_all rfl
theorem ls_names (F M : ByteArray) (n : Int) (bs : List Int) : (crashD (lsZ5 F M) n bs).names = [(sA, 0)] ∨ (crashD (lsZ5 F M) n bs).names = [(sA, 0), (sB, 1)] := by
  have hn : (crashD (lsZ5 F M) n bs).names = doAll [(sA, 0)] ([[(sB, some 1)]].take (restI n ((lsZ5 F M).queue.length + 1)).toNat) := rfl
  rw [hn]
  generalize (restI n ((lsZ5 F M).queue.length + 1)).toNat = k
  match k with
  | 0 => exact .inl rfl
  | k + 1 => rw [List.take_of_length_le (by simp)]; right; with_unfolding_all rfl
theorem ls_list (F M : ByteArray) (n : Int) (bs : List Int) : listD (crashD (lsZ5 F M) n bs) = [[97]] ∨ listD (crashD (lsZ5 F M) n bs) = [[97], [98]] := by
  unfold listD
  rcases ls_names F M n bs with h | h
  · rw [h]; left; decide +kernel
  · rw [h]; right
    show [[97], [98]].mergeSort leB = _
    first | exact List.mergeSort_of_pairwise (by decide +kernel) | exact List.mergeSort_of_sorted (by decide +kernel)
theorem ls_read (F M : ByteArray) (n : Int) (bs : List Int) : ∃ k, k ≤ M.size ∧ readD (crashD (lsZ5 F M) n bs) sA = ((F ++ M).extract 0 (F.size + k), 0) := by
  have hf : (crashD (lsZ5 F M) n bs).files[0]? = some (fileFix bs 0 ⟨F ++ M, F.size⟩) := rfl
  have hl : look (crashD (lsZ5 F M) n bs).names sA = some 0 := by
    rcases ls_names F M n bs with h | h <;> rw [h] <;> decide +kernel
  have hs : (F ++ M).size = F.size + M.size := ByteArray.size_append
  unfold readD
  rw [if_neg (by simp [crashD]), hl]
  simp only [dataOf, hf]
  unfold fileFix
  simp only
  refine ⟨_, ?_, rfl⟩
  split
  · simp
  · have := restI_bd (n := bs.getD (0 % bs.length) 0) (b := ((F ++ M).size : Int) - F.size + 1) (by omega)
    omega
end Go.Proofs.Ytlcggocfkanblaa
