/-
  Small lemmas of general use: a cell behind what happens elsewhere, strings joined, one byte as a string. Plain laws over the program; no condition.
-/
import Derived.Test.YtahahginmgidjaaBase
import Derived.Test.YtahahginmgidjaaProg
import Derived.Laws.Strings
namespace Go.Proofs.Ytahahginmgidjaa
open Go.RowKit
set_option linter.unusedVariables false
set_option linter.unusedSimpArgs false

theorem ky_drew {w : World} {p : Addr} {v : Value} (h : w.cell? p = some v) : w.drew.cell? p = some v := h
theorem ky_alloc {w : World} {p : Addr} {v : Value} (o : Obj) (h : w.cell? p = some v) : (w.alloc o).cell? p = some v := by
  have hlt := World.block_lt_of_cell? w p h
  exact (World.cell?_of_block (w := w) (Below.heap_alloc w o p.block hlt)).trans h
theorem ky_chg {w w' : World} {p : Addr} {v : Value} (hc : Chg (fun _ => False) w w') (h : w.cell? p = some v) : w'.cell? p = some v := (hc.cell (World.block_lt_of_cell? w p h) (by simp)).trans h
theorem ky_new (w : World) (v : Value) (t : TypeId) : (w.alloc (.cells #[v] t)).cell? ⟨w.heap.size, 0, none⟩ = some v := by
  rw [(Blk.new w t #[v]).cell 0]
  rfl
theorem cat_ok (x y : ByteArray) (h : x.size + y.size ≤ 9223372036854775807) : Op.stringOp .add x y = pure (.string (x ++ y)) := by
  unfold Op.stringOp
  simp only
  rw [if_neg]
  simp [IntKind.max, IntKind.bits, IntKind.signed]
  omega
theorem bs_eq {a b : ByteArray} (h : a.data.toList = b.data.toList) : a = b := ByteArray.ext (Array.ext' h)
theorem bs_test (a b : ByteArray) : (a.toList == b.toList) = decide (a = b) := by
  rw [ByteArray.toList_eq, ByteArray.toList_eq]
  by_cases h : a = b
  · subst h; simp
  · have : a.data.toList ≠ b.data.toList := fun e => h (bs_eq e)
    rw [beq_eq_false_iff_ne.2 this]
    simp [h]
theorem bs_len (s : ByteArray) : s.data.toList.length = s.size := by rw [Array.length_toList]; rfl
theorem bs_ext (s : ByteArray) (a b : Nat) : (s.extract a b).data.toList = (s.data.toList.take b).drop a := by
  rw [ByteArray.data_extract, Array.toList_extract]
  simp [List.extract_eq_take_drop, List.take_drop]
  by_cases h : a ≤ b
  · rw [Nat.add_sub_cancel' h]
  · rw [List.drop_eq_nil_of_le (by simp; omega), List.drop_eq_nil_of_le (by simp; omega)]
end Go.Proofs.Ytahahginmgidjaa
