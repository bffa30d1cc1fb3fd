/-
  Items and their lines, as plain data: fields, lines. Plain Lean; no program; no condition.
-/
import Derived.Test.YtjloddlkleileaaGreatDoorFeeM
import Derived.Lib.Split
namespace Go.Proofs.YtjloddlkleileaaGreatDoor
set_option linter.unusedVariables false
set_option linter.unusedSimpArgs false

theorem first_at (c : UInt8) : ∀ s : List UInt8, c ∈ s → ∃ a b, s = a ++ c :: b ∧ c ∉ a
  | [], h => by cases h
  | x :: r, h => by
    by_cases hx : x = c
    · subst hx; exact ⟨[], r, rfl, by simp⟩
    · have hr : c ∈ r := by
        rcases List.mem_cons.1 h with e | e
        · exact absurd e.symm hx
        · exact e
      obtain ⟨a, b, e, hn⟩ := first_at c r hr
      refine ⟨x :: a, b, by rw [e]; rfl, fun h => ?_⟩
      rcases List.mem_cons.1 h with e | e
      · exact hx e.symm
      · exact hn e
theorem index_miss (c : UInt8) : ∀ s : List UInt8, c ∉ s → Lib.index s [c] = -1
  | [], _ => rfl
  | x :: r, h => by
    have hx : ¬ c = x := fun e => h (by simp [e])
    have hr : c ∉ r := fun e => h (by simp [e])
    unfold Lib.index
    rw [if_neg (by simp [List.isPrefixOf, hx]), index_miss c r hr]
    rfl
theorem index_hit (c : UInt8) (b : List UInt8) : ∀ a : List UInt8, c ∉ a → Lib.index (a ++ c :: b) [c] = (a.length : Int)
  | [], _ => by
    show Lib.index (c :: b) [c] = _
    unfold Lib.index
    rw [if_pos (by simp [List.isPrefixOf])]
    rfl
  | x :: r, h => by
    have hx : ¬ c = x := fun e => h (by simp [e])
    have hr : c ∉ r := fun e => h (by simp [e])
    show Lib.index (x :: (r ++ c :: b)) [c] = _
    unfold Lib.index
    rw [if_neg (by simp [List.isPrefixOf, hx]), index_hit c b r hr]
    rw [if_neg (by simp <;> omega), List.length_cons]
    omega
theorem cut_hit (c : UInt8) (a b : List UInt8) (h : c ∉ a) : Lib.cut (a ++ c :: b) [c] = (a, b, true) := by
  unfold Lib.cut
  rw [index_hit c b a h, if_pos (by omega)]
  simp
theorem cut_miss (c : UInt8) (s : List UInt8) (h : c ∉ s) : Lib.cut s [c] = (s, [], false) := by
  unfold Lib.cut
  rw [index_miss c s h, if_neg (by omega)]
/-- Fields, at every place of a byte. -/
def spl (c : UInt8) : List UInt8 → List (List UInt8)
  | [] => [[]]
  | x :: r => if x = c then [] :: spl c r else match spl c r with | f :: t => (x :: f) :: t | [] => [[x]]
theorem spl_ne (c : UInt8) (s : List UInt8) : spl c s ≠ [] := by
  cases s with
  | nil => simp [spl]
  | cons x r =>
    unfold spl
    split
    · simp
    · split <;> simp
theorem spl_miss (c : UInt8) : ∀ s : List UInt8, c ∉ s → spl c s = [s]
  | [], _ => rfl
  | x :: r, h => by
    have hx : ¬ x = c := fun e => h (by simp [e])
    have hr : c ∉ r := fun e => h (by simp [e])
    unfold spl
    rw [if_neg hx, spl_miss c r hr]
theorem spl_hit (c : UInt8) (b : List UInt8) : ∀ a : List UInt8, c ∉ a → spl c (a ++ c :: b) = a :: spl c b
  | [], _ => by
    show spl c (c :: b) = _
    rw [spl, if_pos rfl]
  | x :: r, h => by
    have hx : ¬ x = c := fun e => h (by simp [e])
    have hr : c ∉ r := fun e => h (by simp [e])
    show spl c (x :: (r ++ c :: b)) = _
    rw [spl, if_neg hx, spl_hit c b r hr]
theorem splitK_spl (c : UInt8) : ∀ (n : Nat) (s : List UInt8), s.count c = n → Lib.splitK [c] 0 n s = spl c s
  | 0, s, h => by
    have hn : c ∉ s := List.count_eq_zero.1 h
    rw [spl_miss c s hn]
    rfl
  | n + 1, s, h => by
    obtain ⟨a, b, rfl, ha⟩ := first_at c s (List.count_pos_iff.1 (by omega))
    have hb : b.count c = n := by
      rw [List.count_append, List.count_cons_self, List.count_eq_zero.2 ha] at h
      omega
    unfold Lib.splitK
    rw [index_hit c b a ha, if_neg (by simp <;> omega), spl_hit c b a ha]
    have e1 : ((a.length : Int).toNat + 0) = a.length := by simp
    have e2 : ((a.length : Int).toNat + [c].length) = (a ++ [c]).length := by simp
    rw [e1, e2, List.take_left]
    have e3 : (a ++ c :: b).drop (a ++ [c]).length = b := by
      rw [show a ++ c :: b = (a ++ [c]) ++ b by simp, List.drop_left]
    rw [e3, splitK_spl c n b hb]
structure ItemV where
  mark : Bool
  time : Int
  kind : UInt8
  val : Int
/-- The item of a line. -/
def itemL (l : List UInt8) : Option ItemV := match spl 32 l with
  | [m, t] => if m = [77] then (numV t).map fun v => ⟨true, v, 0, 0⟩ else none
  | [e, t, k, v] => if e = [69] then (match k with | [x] => (match numV t, numV v with | some a, some b => some ⟨false, a, x, b⟩ | _, _ => none) | _ => none) else none
  | _ => none
/-- The line of an item. -/
def lineV (x : ItemV) : List UInt8 := if x.mark then [77, 32] ++ Lib.itoa x.time else [69, 32] ++ Lib.itoa x.time ++ [32] ++ [x.kind] ++ [32] ++ Lib.itoa x.val
theorem itoa_plain (v : Int) (c : UInt8) (h : c = 32 ∨ c = 10) : c ∉ Lib.itoa v := by
  have hd : ∀ n, c ∉ Lib.decDigits n := fun n hc => by
    have := List.all_eq_true.1 (dec_all n) c hc
    rcases h with rfl | rfl <;> simp [isDg] at this
  unfold Lib.itoa
  split
  · intro hc
    rcases List.mem_cons.1 hc with e | e
    · rcases h with rfl | rfl <;> simp at e
    · exact hd _ e
  · exact hd _
end Go.Proofs.YtjloddlkleileaaGreatDoor
