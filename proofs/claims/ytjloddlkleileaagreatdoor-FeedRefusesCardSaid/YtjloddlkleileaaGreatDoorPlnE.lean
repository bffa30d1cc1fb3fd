/-
  The document's plan: find, how many positive steps, what is wrong with a step, with a condition, with a pattern.
-/
import Derived.Test.YtjloddlkleileaaGreatDoorPatI
import Derived.Test.YtjloddlkleileaaGreatDoorPlnN
import Derived.Test.YtjloddlkleileaaGreatDoorPlnC
namespace Go.Proofs.YtjloddlkleileaaGreatDoor
open Go.RowKit
set_option linter.unusedVariables false
set_option linter.unusedSimpArgs false

theorem rstep_at {w : World} {v : Value} {L : List PStepV} (h : Lst rstepC w v L) : ∃ a cap, v = .slice a L.length cap ∧ L.length ≤ cap ∧ ∀ A x B, L = A ++ x :: B → ∃ b, a = some ⟨b, 0, none⟩ ∧ b < w.heap.size ∧
    w.cell? ⟨b, A.length * 5, none⟩ = some (bV x.kind) ∧ w.cell? ⟨b, A.length * 5 + 1, none⟩ = some (bV x.name) ∧ w.cell? ⟨b, A.length * 5 + 2, none⟩ = some (.bool x.no) ∧ w.cell? ⟨b, A.length * 5 + 3, none⟩ = some (.int .i64 x.min) ∧ w.cell? ⟨b, A.length * 5 + 4, none⟩ = some (.int .i64 x.max) := by
  obtain ⟨a, cap, e, h1, _, h3⟩ := h.form rstepOk
  refine ⟨a, cap, e, h1, fun A x B hl => ?_⟩
  obtain ⟨b, eb, hb, _, hc⟩ := h3 A x B hl
  exact ⟨b, eb, hb, hc 0 _ rfl, hc 1 _ rfl, hc 2 _ rfl, hc 3 _ rfl, hc 4 _ rfl⟩
theorem rcond_at {w : World} {v : Value} {C : List PCondV} (h : Lst rcondC w v C) : ∃ a cap, v = .slice a C.length cap ∧ C.length ≤ cap ∧ ∀ A x B, C = A ++ x :: B → ∃ b, a = some ⟨b, 0, none⟩ ∧ b < w.heap.size ∧
    w.cell? ⟨b, A.length * 4, none⟩ = some (bV x.left) ∧ w.cell? ⟨b, A.length * 4 + 1, none⟩ = some (.int .i64 x.op) ∧ w.cell? ⟨b, A.length * 4 + 2, none⟩ = some (bV x.right) ∧ w.cell? ⟨b, A.length * 4 + 3, none⟩ = some (.int .i64 x.add) := by
  obtain ⟨a, cap, e, h1, _, h3⟩ := h.form rcondOk
  refine ⟨a, cap, e, h1, fun A x B hl => ?_⟩
  obtain ⟨b, eb, hb, _, hc⟩ := h3 A x B hl
  exact ⟨b, eb, hb, hc 0 _ rfl, hc 1 _ rfl, hc 2 _ rfl, hc 3 _ rfl⟩
set_option maxRecDepth 100000 in
set_option maxHeartbeats 4000000 in
theorem rq_find (L : List PStepV) (sv cv : Value) (n : Int) (c : UInt8) (w : World) (hL : Lst rstepC w sv L) (hl : L.length ≤ 4096) : Calls Tryz.prog 49 #[.agg #[sv, cv, .int .i64 n], bV c] w (NumAt' w (findP L c)) := by
  obtain ⟨w1, hw1⟩ : ∃ w1, w1 = w.alloc (.cells #[sv, cv, .int .i64 n] 75) := ⟨_, rfl⟩
  have hc1 : Chg (fun _ => False) w w1 := by rw [hw1]; ((repeat (first | exact Chg.refl _ _ | assumption | refine Chg.drewN ?_ _ | refine Chg.drew ?_ | refine Chg.alloc ?_ _ | refine Chg.setCell ?_ (by first | (simp; done) | (simp; omega) | (intro h; simp at h; omega)) _)))
  obtain ⟨bp, hbp⟩ : ∃ b, w.heap.size = b := ⟨_, rfl⟩
  have hp1 : Blk w1 bp 75 #[sv, cv, .int .i64 n] := by rw [hw1, ← hbp]; exact Blk.new _ _ _
  obtain ⟨a, cap, rfl, hlc, hr⟩ := rstep_at (hL.same hc1)
  obtain ⟨F, hF⟩ : ∃ F, findP L c = F := ⟨_, rfl⟩
  rw [hF]
  have y0 := hp1.cell 0
  simp at y0
  have hbv : bV c = .int .u8 (c.toNat : Int) := rfl
  rw [hbv]
  have HW1 := Lib.hid hw1
  have HC1 := Lib.hid hc1
  have HBP := Lib.hid hbp
  have HR := Lib.hid hr
  have HF := Lib.hid hF
  clear hw1 hc1 hbp hr hF
  clear hL hp1 hbv
  go_enter Tryz.func49, Tryz.ntmps49
  go_upto_region 2 with fail
  rw [← HW1.out, HBP.out]
  go_loopw [5] (fun u wr => wr = w1 ∧ ∃ k : Nat, u = .int .i64 (k : Int) ∧ k ≤ L.length ∧ (∀ x ∈ L.take k, x.name ≠ c)) (fun u _ => L.length - (intOf u).toNat)
  case atStart => exact ⟨rfl, 0, rfl, Nat.zero_le _, by simp⟩
  case round =>
    obtain ⟨rfl, k, rfl, hk, hno⟩ := hrel
    by_cases hlt : k < L.length
    · obtain ⟨x, hA, hB, hC⟩ := split_at' hlt
      obtain ⟨b0, rfl, hb0, x0, x1, x2, x3, x4⟩ := HR.out _ _ _ hA
      rw [hB] at x1
      have hbv : bV x.name = .int .u8 (x.name.toNat : Int) := rfl
      rw [hbv] at x1
      have q : decide ((k : Int) < (L.length : Int)) = true := by simp; omega
      have hi := IntWalk.i64_in ((k : Int) + 1) (by omega)
      have HNO := Lib.hid hno
      have HA := Lib.hid hA
      have HCT := Lib.hid hC
      clear hno hA hC
      clear x0 x2 x3 x4 hbv
      by_cases he : x.name = c
      · have q2 : ((x.name.toNat : Int) == (c.toNat : Int)) = true := by rw [he]; simp
        have hF2 : F = (k : Int) := by
          rw [← HF.out, HA.out, ← he, findP_at (fun y hy => by rw [he]; exact HNO.out y hy), hB]
        have HF2 := Lib.hid hF2
        clear hF2
        clear he hB
        go_wp2_with fail
        go_ret
        rw [HF2.out]
        exact ⟨rfl, HC1.out⟩
      · have q2 : ((x.name.toNat : Int) == (c.toNat : Int)) = false := by
          rw [beq_eq_false_iff_ne]
          intro e
          exact he (UInt8.toNat_inj.1 (by omega))
        have hno2 : ∀ y ∈ L.take (k + 1), y.name ≠ c := by
          rw [HCT.out]
          intro y hy
          rw [List.mem_append] at hy
          rcases hy with hy | hy
          · exact HNO.out y hy
          · rw [List.mem_singleton.1 hy]; exact he
        have HNO2 := Lib.hid hno2
        clear hno2
        clear he hB
        go_wp2_with fail
        exact ⟨⟨trivial, k + 1, by simp, by omega, HNO2.out⟩, by simp [intOf]; omega⟩
    · have hke : k = L.length := by omega
      subst hke
      rw [List.take_length] at hno
      have q : decide ((L.length : Int) < (L.length : Int)) = false := by simp
      have hF2 : F = -1 := by rw [← HF.out, findP_none]; exact hno
      have HF2 := Lib.hid hF2
      have HNO := Lib.hid hno
      clear hF2 hno
      go_wp2_with fail
      go_ret
      rw [HF2.out]
      exact ⟨rfl, HC1.out⟩
/-- A call that makes memory of its own, and gives some number. -/
def SomeNum (w : World) (m : Int) (e : Ending) (w' : World) : Prop := ∃ n : Int, 0 ≤ n ∧ n ≤ m ∧ e = .returned (.int .i64 n) ∧ Chg (fun _ => False) w w'
set_option maxRecDepth 100000 in
set_option maxHeartbeats 4000000 in
theorem rq_positive (L : List PStepV) (i : Int) (sv cv : Value) (n : Int) (w : World) (hL : Lst rstepC w sv L) (hl : L.length ≤ 4096) (hi : i ≤ L.length) : Calls Tryz.prog 50 #[.agg #[sv, cv, .int .i64 n], .int .i64 i] w (SomeNum w 4096) := by
  obtain ⟨w1, hw1⟩ : ∃ w1, w1 = w.alloc (.cells #[sv, cv, .int .i64 n] 75) := ⟨_, rfl⟩
  have hc1 : Chg (fun _ => False) w w1 := by rw [hw1]; ((repeat (first | exact Chg.refl _ _ | assumption | refine Chg.drewN ?_ _ | refine Chg.drew ?_ | refine Chg.alloc ?_ _ | refine Chg.setCell ?_ (by first | (simp; done) | (simp; omega) | (intro h; simp at h; omega)) _)))
  obtain ⟨bp, hbp⟩ : ∃ b, w.heap.size = b := ⟨_, rfl⟩
  have hp1 : Blk w1 bp 75 #[sv, cv, .int .i64 n] := by rw [hw1, ← hbp]; exact Blk.new _ _ _
  obtain ⟨a, cap, rfl, hlc, hr⟩ := rstep_at (hL.same hc1)
  have y0 := hp1.cell 0
  simp at y0
  have HW1 := Lib.hid hw1
  have HC1 := Lib.hid hc1
  have HBP := Lib.hid hbp
  have HR := Lib.hid hr
  clear hw1 hc1 hbp hr
  clear hL hp1
  go_enter Tryz.func50, Tryz.ntmps50
  go_upto_region 3 with fail
  rw [← HW1.out, HBP.out]
  go_loopw [5, 6] (fun v u wr => wr = w1 ∧ ∃ k m : Nat, u = .int .i64 (k : Int) ∧ v = .int .i64 (m : Int) ∧ k ≤ L.length ∧ m ≤ k) (fun _ u _ => L.length - (intOf u).toNat)
  case atStart => exact ⟨rfl, 0, 0, rfl, rfl, Nat.zero_le _, Nat.le_refl _⟩
  case round =>
    obtain ⟨rfl, k, m, rfl, rfl, hk, hm⟩ := hrel
    by_cases hlt : (k : Int) < i
    · obtain ⟨x, hA, hB, hC⟩ := split_at' (l := L) (k := k) (by omega)
      obtain ⟨b0, rfl, hb0, x0, x1, x2, x3, x4⟩ := HR.out _ _ _ hA
      rw [hB] at x2
      have q : decide ((k : Int) < i) = true := by simp; omega
      have hi1 := IntWalk.i64_in ((k : Int) + 1) (by omega)
      have hi2 := IntWalk.i64_in ((m : Int) + 1) (by omega)
      have hkl : k < L.length := by omega
      clear x0 x1 x3 x4 hB hA hC
      cases hno : x.no
      · rw [hno] at x2
        clear hno
        go_wp2_with fail
        exact ⟨⟨trivial, k + 1, m + 1, by simp, by simp, by omega, by omega⟩, by simp [intOf]; omega⟩
      · rw [hno] at x2
        clear hno
        go_wp2_with fail
        exact ⟨⟨trivial, k + 1, m, by simp, by simp, by omega, by omega⟩, by simp [intOf]; omega⟩
    · have q : decide ((k : Int) < i) = false := by simp; omega
      go_wp2_with fail
      go_ret
      exact ⟨(m : Int), by omega, by omega, rfl, HC1.out⟩
end Go.Proofs.YtjloddlkleileaaGreatDoor
