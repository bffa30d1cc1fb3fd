/-
  Fields of a line: strings.Split at a blank.
-/
import Derived.Test.YtjloddlkleileaaGreatDoorFeeA
namespace Go.Proofs.YtjloddlkleileaaGreatDoor
open Go.RowKit Go.Shelf
set_option linter.unusedVariables false
set_option linter.unusedSimpArgs false

/-- The library's bound on short searches is some number. -/
def MaxOk (w : World) : Prop := ∃ m, w.cell? ⟨0, 0, none⟩ = some (.int .i64 m)
theorem MaxOk.chg {w w' : World} (h : MaxOk w) (hc : Chg (fun _ => False) w w') : MaxOk w' := by
  obtain ⟨m, h⟩ := h
  exact ⟨m, (hc.cell (cell_lt h) (by simp)).trans h⟩
theorem ren_split : Tryz.strSplit_ren.f 146 = 74 := by kernel_rfl
theorem ren_split_g : Tryz.strSplit_ren.g 1 = 0 := by kernel_rfl
theorem ren_split_t : Tryz.strSplit_ren.t 9 = 9 := by kernel_rfl
theorem count_one (c : UInt8) : ∀ (n : Nat) (s : List UInt8), s.length < n → Lib.countFrom [c] n s = s.count c
  | 0, s, h => absurd h (Nat.not_lt_zero _)
  | n + 1, s, h => by
    unfold Lib.countFrom
    by_cases hc : c ∈ s
    · obtain ⟨a, b, rfl, ha⟩ := first_at c s hc
      rw [index_hit c b a ha, if_neg (by simp <;> omega)]
      have e2 : ((a.length : Int).toNat + [c].length) = (a ++ [c]).length := by simp
      have e3 : (a ++ c :: b).drop (a ++ [c]).length = b := by
        rw [show a ++ c :: b = (a ++ [c]) ++ b by simp, List.drop_left]
      rw [e2, e3, count_one c n b (by simp at h; omega), List.count_append, List.count_cons_self, List.count_eq_zero.2 ha]
      omega
    · rw [index_miss c s hc, if_pos (by simp), List.count_eq_zero.2 hc]
theorem countB_one (s : ByteArray) (c : UInt8) : Lib.countB s ⟨#[c]⟩ = s.data.toList.count c := count_one c _ _ (Nat.lt_succ_self _)
theorem info_str : (Tryz.prog.info? 9).map (fun i => (i.zero, i.size, i.bytes)) = some (some (.string ByteArray.empty), 1, 16) := by kernel_rfl
theorem str_split (s : ByteArray) (w : World) (hs : s.size ≤ 4294967280) (hm : MaxOk w) : Calls Tryz.prog 74 #[.string s, .string ⟨#[32]⟩] w fun e w' =>
    ∃ L : List ByteArray, L.map (fun b => b.data.toList) = spl 32 s.data.toList ∧ (∀ b ∈ L, b.size ≤ 4294967280) ∧ e = .returned (.slice (some ⟨w.heap.size, 0, none⟩) L.length L.length) ∧ w' = w.alloc (.cells (L.map Value.string).toArray 9) := by
  obtain ⟨m, hm⟩ := hm
  have h := Any.strings_Split Tryz.strSplit (by rw [ren_split_t]; exact info_str) s ⟨#[32]⟩ m w (by omega) (by rw [ren_split_g]; exact hm) (by decide)
  rw [ren_split, ren_split_t] at h
  refine h.mono fun e w' ⟨he, hw⟩ => ?_
  have hmap : (Lib.splitB ⟨#[32]⟩ 0 (Lib.countB s ⟨#[32]⟩) s).map (fun b => b.data.toList) = spl 32 s.data.toList := by
    rw [Lib.splitB_data, countB_one]
    exact splitK_spl 32 _ _ rfl
  have hlen : (Lib.splitB ⟨#[32]⟩ 0 (Lib.countB s ⟨#[32]⟩) s).length = Lib.countB s ⟨#[32]⟩ + 1 := Lib.splitB_all ⟨#[32]⟩ (by decide) 0 _ s rfl
  refine ⟨Lib.splitB ⟨#[32]⟩ 0 (Lib.countB s ⟨#[32]⟩) s, hmap, fun b hb => ?_, by rw [he, hlen], hw⟩
  have h1 : b.data.toList ∈ spl 32 s.data.toList := by rw [← hmap]; exact List.mem_map.2 ⟨b, hb, rfl⟩
  have h2 := spl_le 32 s.data.toList _ h1
  rw [Array.length_toList, Array.length_toList] at h2
  exact Nat.le_trans h2 hs
end Go.Proofs.YtjloddlkleileaaGreatDoor
