/-
  The disk: List.
-/
import Derived.Test.YtlcggocfkanblaaDiskW
import Derived.Test.YtlcggocfkanblaaIter
namespace Go.Proofs.Ytlcggocfkanblaa
open Go.RowKit Go.Maps Go.Sort
set_option linter.unusedVariables false
set_option linter.unusedSimpArgs false

def listD (D : DiskV) : List (List UInt8) := (D.names.map fun p => p.1.data.toList).mergeSort leB
set_option maxRecDepth 100000 in
set_option maxHeartbeats 2000000 in
theorem disk_list (d : Nat) (ids : List Nat) (D : DiskV) (M : Nat → Prop) (hn : D.names.length ≤ 1000000) (w : World) (h : DiskAt w d ids D M) :
    Calls Try.prog 18 #[.pointer (some ⟨d, 0, none⟩)] w fun e w' => ∃ v, e = .returned v ∧ w'.ownsRow w.heap.size 9 1 v (listD D).length ((listD D).map encStr) ∧ Chg (fun _ => False) w w' := by
  obtain ⟨hok, y, h⟩ := h
  have c2 := h.blk.cell 2
  simp at c2
  obtain ⟨D0, hown, hsize, hperm⟩ := nmap_owns h.names (by unfold maxLen; omega) hok.names.one
  have hk := callsIn_wide.1 (Try.maps_Keys_42 (some y.nm) w)
  have hs := callsIn_wide.1 (Try.slices_Sorted_keys_41_42 y.nm _ D0 _ w hown (by rw [hsize]; unfold maxLen; omega) (by rw [hsize]; omega))
  have hlist : ∀ ss : List (List UInt8), ss.Perm (strKeys D0) → ss.mergeSort (fun x y => decide (x ≤ y)) = listD D := fun ss hp => mergeSort_of_perm (hp.trans hperm)
  have HK := Lib.hid hk
  have HS := Lib.hid hs
  have HL := Lib.hid hlist
  clear hk hs hlist hown hsize hperm h hok
  go_enter Try.func18, Try.ntmps18
  go_wp2_with fail
  refine HK.out.mono ?_
  rintro e w1 ⟨rfl, rfl⟩
  go_wp2_with fail
  refine HS.out.mono ?_
  rintro e w2 ⟨v, ss, rfl, hp, hrow, hnil, hb⟩
  have hll := HL.out ss hp
  go_wp2_with fail
  go_ret
  have hlen : ss.length = (listD D).length := by rw [← hll, List.length_mergeSort]
  rw [hll, hlen] at hrow
  refine ⟨v, rfl, ?_, ?_⟩
  · obtain ⟨h1, h2⟩ := hrow
    refine ⟨h1, ?_⟩
    rcases h2 with h2 | ⟨g, cap, cur, a, b, c⟩
    · exact .inl h2
    · simp at b
      exact .inr ⟨g, cap, cur, a, by omega, c⟩
  · have hc0 : Chg (fun _ => False) w (w.alloc (.cells #[.map (some y.nm)] 52)) := by ((repeat (first | exact Chg.refl _ _ | assumption | refine Chg.drewN ?_ _ | refine Chg.drew ?_ | refine Chg.alloc ?_ _ | refine Chg.setCell ?_ (by simp) _)))
    exact hc0.then ⟨hb.os, hb.tape, hb.output, hb.size, fun k hk _ => hb.block k hk⟩
end Go.Proofs.Ytlcggocfkanblaa
