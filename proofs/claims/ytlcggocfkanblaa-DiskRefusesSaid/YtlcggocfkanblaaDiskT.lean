/-
  The disk: wakes.
-/
import Derived.Test.YtlcggocfkanblaaDiskS
namespace Go.Proofs.Ytlcggocfkanblaa
open Go.RowKit
set_option linter.unusedVariables false
set_option linter.unusedSimpArgs false

theorem small_of {D : DiskV} (h : (decide (D.queue.length ≤ 1000) && decide (D.files.length ≤ 1000) && decide (D.names.length ≤ 1000)) = true) : DSmall D := by
  simp at h
  exact ⟨by omega, by omega, by omega⟩
theorem wk_small : DSmall (startD 9) ∧ DSmall wk1 ∧ DSmall wk2 ∧ DSmall wk3 ∧ DSmall wk4 ∧ DSmall wk5 := by
  refine ⟨?_, ?_, ?_, ?_, ?_, ?_⟩ <;> exact small_of (by decide +kernel)

set_option maxRecDepth 100000 in
set_option maxHeartbeats 2000000 in
theorem disk_wakes (w : World) : Calls Try.prog 9 #[] w fun e w' => e = .returned (.bool true) ∧ Chg (fun _ => False) w w' := by
  obtain ⟨r1, r2, r3, r4, r5, r6⟩ := wk_res
  obtain ⟨k0, k1, k2, k3, k4, k5⟩ := wk_small
  have c1 := fun d W h => st_create w d (startD 9) sA (by decide) k0 W h
  have c2 := fun d W h => st_append w d wk1 sA (by decide) k1 W h sXY (by decide)
  have c3 := fun d W h => st_sync w d wk2 sA (by decide) k2 W h
  have c4 := fun d W h => st_syncdir w d wk3 k3 W h
  have c5 := fun d W h => st_append w d wk4 sA (by decide) k4 W h sZ (by decide)
  have c6 := fun d W h => st_crash w d wk5 0 [] (.slice none 0 0) k5.q (by decide) (by decide) W h (fun W' _ => rints_nil W')
  have c7 := fun d W h => st_read w d wk6 sA (by decide) W h
  rw [r1] at c1
  rw [r2] at c2
  rw [r3] at c3
  rw [r4] at c4
  rw [r5] at c5
  rw [r6] at c7
  have C1 := Lib.hid c1
  have C2 := Lib.hid c2
  have C3 := Lib.hid c3
  have C4 := Lib.hid c4
  have C5 := Lib.hid c5
  have C6 := Lib.hid c6
  have C7 := Lib.hid c7
  clear c1 c2 c3 c4 c5 c6 c7 r1 r2 r3 r4 r5 r6 k0 k1 k2 k3 k4 k5
  go_enter Try.func9, Try.ntmps9
  go_wp2_with fail
  refine (st_new 9 (by decide) w).mono ?_
  rintro e w1 ⟨rfl, h1⟩
  have H1 := Lib.hid h1
  clear h1
  go_wp2_with fail
  refine (C1.out _ _ H1.out).mono ?_
  rintro e w2 ⟨rfl, h2⟩
  have H2 := Lib.hid h2
  clear h2
  go_wp2_with fail
  refine (C2.out _ _ H2.out).mono ?_
  rintro e w3 ⟨rfl, h3⟩
  have H3 := Lib.hid h3
  clear h3
  go_wp2_with fail
  refine (C3.out _ _ H3.out).mono ?_
  rintro e w4 ⟨rfl, h4⟩
  have H4 := Lib.hid h4
  clear h4
  go_wp2_with fail
  refine (C4.out _ _ H4.out).mono ?_
  rintro e w5 ⟨rfl, h5⟩
  have H5 := Lib.hid h5
  clear h5
  go_wp2_with fail
  refine (C5.out _ _ H5.out).mono ?_
  rintro e w6 ⟨rfl, h6⟩
  have H6 := Lib.hid h6
  clear h6
  go_wp2_with fail
  refine (C6.out _ _ H6.out).mono ?_
  rintro e w7 ⟨rfl, h7⟩
  have H7 := Lib.hid h7
  clear h7
  go_wp2_with fail
  refine (C7.out _ _ H7.out).mono ?_
  rintro e w8 ⟨rfl, h8⟩
  have H8 := Lib.hid h8
  clear h8
  have hs : (sXY.toList == [120, 121]) = true := by decide +kernel
  go_wp2_with fail
  go_ret
  exact ⟨rfl, H8.out.frame⟩
end Go.Proofs.Ytlcggocfkanblaa
