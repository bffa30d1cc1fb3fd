/-
  The cache: of a nil cache, and of one without a budget, nothing is kept (the walk of CacheNil).
-/
import Derived.Test.YtafdgncjfiiekaaCacheL
namespace Go.Proofs.Ytafdgncjfiiekaa
open Go.RowKit
set_option linter.unusedVariables false
set_option linter.unusedSimpArgs false

/-- The pointer is nil, or that of a cache without a budget. -/
def Dead (w : World) (vp : Option Addr) : Prop := vp = none ∨ ∃ c, vp = some ⟨c, 0, none⟩ ∧ w.cell? ⟨c, 0, none⟩ = some (.pointer none)
theorem Dead.chg {w w' : World} {vp : Option Addr} (h : Dead w vp) (hc : Chg (fun _ => False) w w') : Dead w' vp := by
  rcases h with h | ⟨c, h, hcell⟩
  · exact .inl h
  · exact .inr ⟨c, h, (hc.cell (World.block_lt_of_cell? w _ hcell) (by simp)).trans hcell⟩
theorem dead_works (vp : Option Addr) (w : World) (h : Dead w vp) : Calls Try.prog 45 #[.pointer vp] w fun e w' => e = .returned (.bool false) ∧ w = w' := by
  rcases h with rfl | ⟨c, rfl, hc⟩
  · exact works_nil w
  · exact works_no c w hc
theorem dead_find (vp : Option Addr) (a b : Int) (w : World) (h : Dead w vp) : Calls Try.prog 47 #[.pointer vp, .agg #[.int .i64 a, .int .i64 b]] w fun e w' => e = .returned (.pointer none) ∧ Chg (fun _ => False) w w' := by
  have H := Lib.hid h
  clear h
  go_enter Try.func47, Try.ntmps47
  go_wp2_with fail
  refine (dead_works vp _ (H.out.chg (by ((repeat (first | exact Chg.refl _ _ | assumption | refine Chg.drewN ?_ _ | refine Chg.drew ?_ | refine Chg.alloc ?_ _ | refine Chg.setCell ?_ (by simp) _)))))).mono ?_
  rintro e w' ⟨rfl, rfl⟩
  go_wp2_with fail
  go_ret
  exact ⟨rfl, by ((repeat (first | exact Chg.refl _ _ | assumption | refine Chg.drewN ?_ _ | refine Chg.drew ?_ | refine Chg.alloc ?_ _ | refine Chg.setCell ?_ (by simp) _)))⟩
theorem dead_get (vp : Option Addr) (a b : Int) (w : World) (h : Dead w vp) : Calls Try.prog 27 #[.pointer vp, .agg #[.int .i64 a, .int .i64 b]] w fun e w' => e = .returned (.tuple #[.string ⟨#[]⟩, .bool false]) ∧ Chg (fun _ => False) w w' := by
  have H := Lib.hid h
  clear h
  go_enter Try.func27, Try.ntmps27
  go_wp2_with fail
  refine (dead_find vp a b _ (H.out.chg (by ((repeat (first | exact Chg.refl _ _ | assumption | refine Chg.drewN ?_ _ | refine Chg.drew ?_ | refine Chg.alloc ?_ _ | refine Chg.setCell ?_ (by simp) _)))))).mono ?_
  rintro e w' ⟨rfl, hc⟩
  go_wp2_with fail
  go_ret2
  exact ⟨rfl, Chg.then (by ((repeat (first | exact Chg.refl _ _ | assumption | refine Chg.drewN ?_ _ | refine Chg.drew ?_ | refine Chg.alloc ?_ _ | refine Chg.setCell ?_ (by simp) _)))) hc⟩
theorem dead_pin (vp : Option Addr) (a b : Int) (w : World) (h : Dead w vp) : Calls Try.prog 30 #[.pointer vp, .agg #[.int .i64 a, .int .i64 b]] w fun e w' => e = .returned (.bool false) ∧ Chg (fun _ => False) w w' := by
  have H := Lib.hid h
  clear h
  go_enter Try.func30, Try.ntmps30
  go_wp2_with fail
  refine (dead_find vp a b _ (H.out.chg (by ((repeat (first | exact Chg.refl _ _ | assumption | refine Chg.drewN ?_ _ | refine Chg.drew ?_ | refine Chg.alloc ?_ _ | refine Chg.setCell ?_ (by simp) _)))))).mono ?_
  rintro e w' ⟨rfl, hc⟩
  go_wp2_with fail
  go_ret
  exact ⟨rfl, Chg.then (by ((repeat (first | exact Chg.refl _ _ | assumption | refine Chg.drewN ?_ _ | refine Chg.drew ?_ | refine Chg.alloc ?_ _ | refine Chg.setCell ?_ (by simp) _)))) hc⟩
theorem dead_unpin (vp : Option Addr) (a b : Int) (w : World) (h : Dead w vp) : Calls Try.prog 34 #[.pointer vp, .agg #[.int .i64 a, .int .i64 b]] w fun e w' => e = .returned (.bool false) ∧ Chg (fun _ => False) w w' := by
  have H := Lib.hid h
  clear h
  go_enter Try.func34, Try.ntmps34
  go_wp2_with fail
  refine (dead_find vp a b _ (H.out.chg (by ((repeat (first | exact Chg.refl _ _ | assumption | refine Chg.drewN ?_ _ | refine Chg.drew ?_ | refine Chg.alloc ?_ _ | refine Chg.setCell ?_ (by simp) _)))))).mono ?_
  rintro e w' ⟨rfl, hc⟩
  go_wp2_with fail
  go_ret
  exact ⟨rfl, Chg.then (by ((repeat (first | exact Chg.refl _ _ | assumption | refine Chg.drewN ?_ _ | refine Chg.drew ?_ | refine Chg.alloc ?_ _ | refine Chg.setCell ?_ (by simp) _)))) hc⟩
theorem dead_shrink (vp : Option Addr) (n : Int) (w : World) (h : Dead w vp) : Calls Try.prog 32 #[.pointer vp, .int .i64 n] w fun e w' => e = .returned (.bool false) ∧ Chg (fun _ => False) w w' := by
  have H := Lib.hid h
  clear h
  go_enter Try.func32, Try.ntmps32
  go_wp2_with fail
  refine (dead_works vp _ (H.out.chg (by ((repeat (first | exact Chg.refl _ _ | assumption | refine Chg.drewN ?_ _ | refine Chg.drew ?_ | refine Chg.alloc ?_ _ | refine Chg.setCell ?_ (by simp) _)))))).mono ?_
  rintro e w' ⟨rfl, rfl⟩
  go_wp2_with fail
  go_ret
  exact ⟨rfl, by ((repeat (first | exact Chg.refl _ _ | assumption | refine Chg.drewN ?_ _ | refine Chg.drew ?_ | refine Chg.alloc ?_ _ | refine Chg.setCell ?_ (by simp) _)))⟩
theorem dead_drop (vp : Option Addr) (n : Int) (w : World) (h : Dead w vp) : Calls Try.prog 33 #[.pointer vp, .int .i64 n] w fun e w' => e = .returned (.tuple #[]) ∧ Chg (fun _ => False) w w' := by
  have H := Lib.hid h
  clear h
  go_enter Try.func33, Try.ntmps33
  go_wp2_with fail
  refine (dead_works vp _ (H.out.chg (by ((repeat (first | exact Chg.refl _ _ | assumption | refine Chg.drewN ?_ _ | refine Chg.drew ?_ | refine Chg.alloc ?_ _ | refine Chg.setCell ?_ (by simp) _)))))).mono ?_
  rintro e w' ⟨rfl, rfl⟩
  go_wp2_with fail
  first | go_end0 | refine bodyPost_ret (results_none rfl _ _ _) rfl ?_
  exact ⟨rfl, by ((repeat (first | exact Chg.refl _ _ | assumption | refine Chg.drewN ?_ _ | refine Chg.drew ?_ | refine Chg.alloc ?_ _ | refine Chg.setCell ?_ (by simp) _)))⟩
theorem dead_kept (vp : Option Addr) (w : World) (h : Dead w vp) : Calls Try.prog 28 #[.pointer vp] w fun e w' => e = .returned (.slice none 0 0) ∧ Chg (fun _ => False) w w' := by
  have H := Lib.hid h
  clear h
  go_enter Try.func28, Try.ntmps28
  go_wp2_with fail
  refine (dead_works vp _ H.out).mono ?_
  rintro e w' ⟨rfl, rfl⟩
  go_wp2_with fail
  go_ret
  exact ⟨rfl, by ((repeat (first | exact Chg.refl _ _ | assumption | refine Chg.drewN ?_ _ | refine Chg.drew ?_ | refine Chg.alloc ?_ _ | refine Chg.setCell ?_ (by simp) _)))⟩
theorem dead_put (vp : Option Addr) (a b : Int) (s : ByteArray) (w : World) (h : Dead w vp) : Calls Try.prog 26 #[.pointer vp, .agg #[.int .i64 a, .int .i64 b], .string s] w fun e w' => e = .returned (.int .i64 1) ∧ Chg (fun _ => False) w w' := by
  have H := Lib.hid h
  clear h
  go_enter Try.func26, Try.ntmps26
  go_wp2_with fail
  refine (dead_works vp _ (H.out.chg (by ((repeat (first | exact Chg.refl _ _ | assumption | refine Chg.drewN ?_ _ | refine Chg.drew ?_ | refine Chg.alloc ?_ _ | refine Chg.setCell ?_ (by simp) _)))))).mono ?_
  rintro e w' ⟨rfl, rfl⟩
  go_wp2_with fail
  go_ret
  exact ⟨rfl, by ((repeat (first | exact Chg.refl _ _ | assumption | refine Chg.drewN ?_ _ | refine Chg.drew ?_ | refine Chg.alloc ?_ _ | refine Chg.setCell ?_ (by simp) _)))⟩

set_option maxRecDepth 100000 in
set_option maxHeartbeats 2000000 in
theorem cache_nil (file n : Int) (s : ByteArray) (w : World) : Calls Try.prog 10 #[.int .i64 file, .string s, .int .i64 n] w fun e w' => e = .returned (.bool true) ∧ Chg (fun _ => False) w w' := by
  go_enter Try.func10, Try.ntmps10
  go_wp2_with fail
  have hcw1 : Chg (fun _ => False) w (w.alloc (.cells #[.int .i64 file, .int .i64 0] 48)) := by ((repeat (first | exact Chg.refl _ _ | assumption | refine Chg.drewN ?_ _ | refine Chg.drew ?_ | refine Chg.alloc ?_ _ | refine Chg.setCell ?_ (by simp) _)))
  have hk1 : Blk (w.alloc (.cells #[.int .i64 file, .int .i64 0] 48)) w.heap.size 48 #[.int .i64 file, .int .i64 0] := Blk.new _ _ _
  refine (cache_new_raw none _).mono ?_
  rintro e w2 ⟨rfl, hb2, _, hc2, hs2⟩
  rw [show (w.alloc (.cells #[.int .i64 file, .int .i64 0] 48)).heap.size = w.heap.size + 1 from by simp] at hb2 hs2 ⊢
  have hcw2 := hcw1.then hc2
  have hk2 := hk1.chg hc2 (by simp)
  have hd2 : Dead w2 (some ⟨w.heap.size + 1 + 1, 0, none⟩) := .inr ⟨_, rfl, hb2.cell 0⟩
  clear hcw1 hk1 hb2 hc2 hs2
  go_wp2_with fail
  have hsl : Blk (w2.alloc (.cells #[.pointer none, .pointer (some ⟨w.heap.size + 1 + 1, 0, none⟩)] 43)) w2.heap.size 43 #[.pointer none, .pointer (some ⟨w.heap.size + 1 + 1, 0, none⟩)] := Blk.new _ _ _
  have hk3 := hk2.chg (w' := w2.alloc (.cells #[.pointer none, .pointer (some ⟨w.heap.size + 1 + 1, 0, none⟩)] 43)) (S := fun _ => False) (by ((repeat (first | exact Chg.refl _ _ | assumption | refine Chg.drewN ?_ _ | refine Chg.drew ?_ | refine Chg.alloc ?_ _ | refine Chg.setCell ?_ (by simp) _)))) (by simp)
  have hd3 := hd2.chg (w' := w2.alloc (.cells #[.pointer none, .pointer (some ⟨w.heap.size + 1 + 1, 0, none⟩)] 43)) (by ((repeat (first | exact Chg.refl _ _ | assumption | refine Chg.drewN ?_ _ | refine Chg.drew ?_ | refine Chg.alloc ?_ _ | refine Chg.setCell ?_ (by simp) _))))
  have hcw3 := hcw2.then (w2 := w2.alloc (.cells #[.pointer none, .pointer (some ⟨w.heap.size + 1 + 1, 0, none⟩)] 43)) (by ((repeat (first | exact Chg.refl _ _ | assumption | refine Chg.drewN ?_ _ | refine Chg.drew ?_ | refine Chg.alloc ?_ _ | refine Chg.setCell ?_ (by simp) _))))
  clear hk2 hd2 hcw2
  have HSL := Lib.hid hsl
  have HK := Lib.hid hk3
  have HD := Lib.hid hd3
  have HCW := Lib.hid hcw3
  clear hsl hk3 hd3 hcw3
  go_loopw [19] (fun i wr => ∃ k : Nat, k ≤ 2 ∧ i = .int .i64 k ∧ Chg (fun _ => False) (w2.alloc (.cells #[.pointer none, .pointer (some ⟨w.heap.size + 1 + 1, 0, none⟩)] 43)) wr) (fun i _ => 2 - (intOf i).toNat)
  case atStart => exact ⟨0, by omega, rfl, Chg.refl _ _⟩
  case round =>
    obtain ⟨k, hk, rfl, hcc⟩ := hrel
    by_cases hlt : k < 2
    · have hv : ∃ vp, Dead wr vp ∧ wr.cell? ⟨w2.heap.size, k, none⟩ = some (.pointer vp) := by
        have hz := HSL.out.chg hcc (by simp)
        obtain rfl | rfl : k = 0 ∨ k = 1 := by omega
        · exact ⟨none, .inl rfl, hz.cell 0⟩
        · exact ⟨_, HD.out.chg hcc, hz.cell 1⟩
      obtain ⟨vp, hdv, y0⟩ := hv
      have hkr := HK.out.chg hcc (by simp)
      have k0 := hkr.cell 0
      have k1 := hkr.cell 1
      have hkl := hkr.lt
      simp at k0 k1
      have hk0 : (0 : Int) ≤ (k : Int) := by omega
      have hk1 : (k : Int) < 2 := by omega
      have HDV := Lib.hid hdv
      have HKR := Lib.hid hkr
      have HC := Lib.hid hcc
      clear hdv hkr hcc
      go_wp2_with fail
      refine (dead_get vp file 0 _ HDV.out).mono ?_
      rintro e w4 ⟨rfl, hc4⟩
      clear y0 k0 k1
      go_wp2_with fail
      have HD4 := Lib.hid (HDV.out.chg hc4)
      have HK4 := Lib.hid (HKR.out.chg hc4 (by simp))
      have HC4 := Lib.hid (HC.out.then hc4)
      clear hc4
      refine (dead_drop vp file _ HD4.out).mono ?_
      rintro e w5 ⟨rfl, hc5⟩
      have HD5 := Lib.hid (HD4.out.chg hc5)
      have HK5 := Lib.hid (HK4.out.chg hc5 (by simp))
      have HC5 := Lib.hid (HC4.out.then hc5)
      have k0 := HK5.out.cell 0
      have k1 := HK5.out.cell 1
      clear hc5
      simp at k0 k1
      go_wp2_with fail
      clear k0 k1
      refine (dead_put vp file 0 s _ HD5.out).mono ?_
      rintro e w6 ⟨rfl, hc6⟩
      have HD6 := Lib.hid (HD5.out.chg hc6)
      have HK6 := Lib.hid (HK5.out.chg hc6 (by simp))
      have HC6 := Lib.hid (HC5.out.then hc6)
      have k0 := HK6.out.cell 0
      have k1 := HK6.out.cell 1
      clear hc6
      simp at k0 k1
      go_wp2_with fail
      clear k0 k1
      refine (dead_pin vp file 0 _ HD6.out).mono ?_
      rintro e w7 ⟨rfl, hc7⟩
      have HD7 := Lib.hid (HD6.out.chg hc7)
      have HK7 := Lib.hid (HK6.out.chg hc7 (by simp))
      have HC7 := Lib.hid (HC6.out.then hc7)
      have k0 := HK7.out.cell 0
      have k1 := HK7.out.cell 1
      clear hc7
      simp at k0 k1
      go_wp2_with fail
      clear k0 k1
      refine (dead_unpin vp file 0 _ HD7.out).mono ?_
      rintro e w8 ⟨rfl, hc8⟩
      have HD8 := Lib.hid (HD7.out.chg hc8)
      have HK8 := Lib.hid (HK7.out.chg hc8 (by simp))
      have HC8 := Lib.hid (HC7.out.then hc8)
      have k0 := HK8.out.cell 0
      have k1 := HK8.out.cell 1
      clear hc8
      simp at k0 k1
      go_wp2_with fail
      clear k0 k1
      refine (dead_shrink vp n _ HD8.out).mono ?_
      rintro e w9 ⟨rfl, hc9⟩
      have HD9 := Lib.hid (HD8.out.chg hc9)
      have HK9 := Lib.hid (HK8.out.chg hc9 (by simp))
      have HC9 := Lib.hid (HC8.out.then hc9)
      have k0 := HK9.out.cell 0
      have k1 := HK9.out.cell 1
      clear hc9
      simp at k0 k1
      go_wp2_with fail
      clear k0 k1
      refine (dead_kept vp  _ HD9.out).mono ?_
      rintro e w10 ⟨rfl, hc10⟩
      have HD10 := Lib.hid (HD9.out.chg hc10)
      have HK10 := Lib.hid (HK9.out.chg hc10 (by simp))
      have HC10 := Lib.hid (HC9.out.then hc10)
      have k0 := HK10.out.cell 0
      have k1 := HK10.out.cell 1
      clear hc10
      simp at k0 k1
      go_wp2_with fail
      clear k0 k1
      refine ⟨⟨k + 1, by omega, by go_num, HC10.out⟩, ?_⟩
      simp [intOf]; omega
    · have HC := Lib.hid (HCW.out.then hcc)
      clear hcc
      go_wp2_with fail
      refine (cache_wakes _).mono ?_
      rintro e w' ⟨rfl, hc⟩
      go_wp2_with fail
      go_ret
      exact ⟨rfl, HC.out.then hc⟩
end Go.Proofs.Ytafdgncjfiiekaa
