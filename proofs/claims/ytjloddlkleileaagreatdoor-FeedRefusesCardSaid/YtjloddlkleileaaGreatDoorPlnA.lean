/-
  The program's plan: the first step of a name.
-/
import Derived.Test.YtjloddlkleileaaGreatDoorPatE
import Derived.Test.YtjloddlkleileaaGreatDoorPlnM
import Derived.WalkLawsBesides
namespace Go.Proofs.YtjloddlkleileaaGreatDoor
open Go.RowKit
set_option linter.unusedVariables false
set_option linter.unusedSimpArgs false

abbrev pvV (sv cv : Value) (n : Int) : Value := .agg #[sv, cv, .int .i64 n]
theorem pstep_at {w : World} {v : Value} {L : List PStepV} (h : Lst pstepC w v L) : ∃ a cap, v = .slice a L.length cap ∧ L.length ≤ cap ∧ ∀ A x B, L = A ++ x :: B → ∃ b, a = some ⟨b, 0, none⟩ ∧ b < w.heap.size ∧
    w.cell? ⟨b, A.length * 5, none⟩ = some (bV x.kind) ∧ w.cell? ⟨b, A.length * 5 + 1, none⟩ = some (bV x.name) ∧ w.cell? ⟨b, A.length * 5 + 2, none⟩ = some (.bool x.no) ∧ w.cell? ⟨b, A.length * 5 + 3, none⟩ = some (.int .i64 x.min) ∧ w.cell? ⟨b, A.length * 5 + 4, none⟩ = some (.int .i64 x.max) := by
  obtain ⟨a, cap, e, h1, _, h3⟩ := h.form pstepOk
  refine ⟨a, cap, e, h1, fun A x B hl => ?_⟩
  obtain ⟨b, eb, hb, _, hc⟩ := h3 A x B hl
  exact ⟨b, eb, hb, hc 0 _ rfl, hc 1 _ rfl, hc 2 _ rfl, hc 3 _ rfl, hc 4 _ rfl⟩
theorem pl_letter (b : UInt8) (x y : Int) (w : World) : Calls Tryz.prog 336 #[bV b, .int .u8 x, .int .u8 y] w fun e w' => e = .returned (.bool (decide (x ≤ (b.toNat : Int)) && decide ((b.toNat : Int) ≤ y))) ∧ w = w' := by
  have hbv : bV b = .int .u8 (b.toNat : Int) := rfl
  rw [hbv]
  clear hbv
  cases h1 : decide (x ≤ (b.toNat : Int)) with
  | true =>
    have q : decide ((b.toNat : Int) ≥ x) = true := h1
    go_enter Tryz.func336, Tryz.ntmps336
    go_wp2_with fail
    go_ret
    exact ⟨rfl, rfl⟩
  | false =>
    have q : decide ((b.toNat : Int) ≥ x) = false := h1
    go_enter Tryz.func336, Tryz.ntmps336
    go_wp2_with fail
    go_ret
    exact ⟨rfl, rfl⟩
set_option maxRecDepth 100000 in
set_option maxHeartbeats 2000000 in
theorem pl_findF (x : PStepV) (b : Nat) (c : UInt8) (w : World) (hb : Blk w b 5 #[bV c]) : Calls Tryz.prog 259 #[.agg #[bV x.kind, bV x.name, .bool x.no, .int .i64 x.min, .int .i64 x.max], .pointer (some ⟨b, 0, none⟩)] w fun e w' => e = .returned (.bool ((x.name.toNat : Int) == (c.toNat : Int))) ∧ Chg (fun _ => False) w w' := by
  have hlt := hb.lt
  have y0 := hb.cell 0
  simp at y0
  clear hb
  go_enter Tryz.func259, Tryz.ntmps259
  go_wp2_with fail
  go_ret
  exact ⟨rfl, by ((repeat (first | exact Chg.refl _ _ | assumption | refine Chg.drewN ?_ _ | refine Chg.drew ?_ | refine Chg.alloc ?_ _ | refine Chg.setCell ?_ (by first | (simp; done) | (simp; omega) | (intro h; simp at h; omega)) _)))⟩
theorem split_at' {α : Type} {l : List α} {k : Nat} (h : k < l.length) : ∃ x, l = l.take k ++ x :: l.drop (k + 1) ∧ (l.take k).length = k ∧ l.take (k + 1) = l.take k ++ [x] := by
  refine ⟨l[k], ?_, by simp; omega, ?_⟩
  · rw [List.getElem_cons_drop, List.take_append_drop]
  · rw [List.take_succ_eq_append_getElem h]
set_option maxRecDepth 100000 in
set_option maxHeartbeats 4000000 in
theorem pl_index (L : List PStepV) (v : Value) (b : Nat) (c : UInt8) (w : World) (hL : Lst pstepC w v L) (hb : Blk w b 5 #[bV c]) (hl : L.length ≤ 4096) : Calls Tryz.prog 258 #[v, .func (.func 259) #[] #[.pointer (some ⟨b, 0, none⟩)]] w fun e w' => e = .returned (.int .i64 (findP L c)) ∧ Chg (fun _ => False) w w' := by
  obtain ⟨a, cap, rfl, hlc, hr⟩ := pstep_at hL
  obtain ⟨F, hF⟩ : ∃ F, findP L c = F := ⟨_, rfl⟩
  rw [hF]
  have HL := Lib.hid hL
  have HR := Lib.hid hr
  have HB := Lib.hid hb
  have HF := Lib.hid hF
  clear hL hr hb hF
  go_enter Tryz.func258, Tryz.ntmps258
  go_wp2_with fail
  go_loopw [8] (fun u wr => ∃ k : Nat, u = .int .i64 (k : Int) ∧ k ≤ L.length ∧ (∀ x ∈ L.take k, x.name ≠ c) ∧ Chg (fun _ => False) w wr) (fun u _ => L.length - (intOf u).toNat)
  case atStart => exact ⟨0, rfl, Nat.zero_le _, by simp, Chg.refl _ _⟩
  case round =>
    obtain ⟨k, rfl, hk, hno, hc⟩ := hrel
    by_cases hlt : k < L.length
    · obtain ⟨x, hA, hB, hC⟩ := split_at' hlt
      obtain ⟨b0, rfl, hb0, x0, x1, x2, x3, x4⟩ := HR.out _ _ _ hA
      rw [hB] at x0 x1 x2 x3 x4
      have x0 := px_chg hc (by simp) x0
      have x1 := px_chg hc (by simp) x1
      have x2 := px_chg hc (by simp) x2
      have x3 := px_chg hc (by simp) x3
      have x4 := px_chg hc (by simp) x4
      have hbr := HB.out.chg hc (by simp)
      have hf := pl_findF x b c wr hbr
      have q : decide ((k : Int) < (L.length : Int)) = true := by simp; omega
      have hi := IntWalk.i64_in ((k : Int) + 1) (by omega)
      have HNO := Lib.hid hno
      have HA := Lib.hid hA
      have HCT := Lib.hid hC
      have HC2 := Lib.hid hc
      have HBR := Lib.hid hbr
      have HFF := Lib.hid hf
      clear hno hA hC hc hbr hf
      by_cases he : x.name = c
      · have q2 : ((x.name.toNat : Int) == (c.toNat : Int)) = true := by rw [he]; simp
        have hF2 : F = (k : Int) := by
          rw [← HF.out, HA.out, ← he, findP_at (fun y hy => by rw [he]; exact HNO.out y hy), hB]
        have HF2 := Lib.hid hF2
        clear hF2
        clear he hB
        go_wp2_with fail
        refine HFF.out.mono ?_
        rintro e w2 ⟨rfl, h6⟩
        have H6 := Lib.hid h6
        clear h6
        go_wp2_with fail
        go_ret
        rw [HF2.out]
        exact ⟨rfl, HC2.out.then H6.out⟩
      · have q2 : ((x.name.toNat : Int) == (c.toNat : Int)) = false := by
          rw [beq_eq_false_iff_ne]
          intro e
          exact he (UInt8.toNat_inj.1 (by omega))
        have hno2 : ∀ y ∈ L.take (k + 1), y.name ≠ c := by
          rw [HCT.out]
          intro y hy
          rw [List.mem_append] at hy
          rcases hy with hy | hy
          · exact HNO.out y hy
          · rw [List.mem_singleton.1 hy]; exact he
        have HNO2 := Lib.hid hno2
        clear hno2
        clear he hB
        go_wp2_with fail
        refine HFF.out.mono ?_
        rintro e w2 ⟨rfl, h6⟩
        have H6 := Lib.hid h6
        clear h6
        go_wp2_with fail
        exact ⟨⟨k + 1, by simp [hi], by omega, HNO2.out, HC2.out.then H6.out⟩, by simp [intOf, hi]; omega⟩
    · have hke : k = L.length := by omega
      subst hke
      rw [List.take_length] at hno
      have q : decide ((L.length : Int) < (L.length : Int)) = false := by simp
      have hF2 : F = -1 := by rw [← HF.out, findP_none]; exact hno
      have HF2 := Lib.hid hF2
      have HC := Lib.hid hc
      have HNO := Lib.hid hno
      clear hF2 hc hno
      go_wp2_with fail
      go_ret
      rw [HF2.out]
      exact ⟨rfl, HC.out⟩
set_option maxRecDepth 100000 in
set_option maxHeartbeats 2000000 in
theorem pl_find (L : List PStepV) (sv cv : Value) (n : Int) (c : UInt8) (w : World) (hL : Lst pstepC w sv L) (hl : L.length ≤ 4096) : Calls Tryz.prog 172 #[.agg #[sv, cv, .int .i64 n], bV c] w fun e w' => e = .returned (.int .i64 (findP L c)) ∧ Chg (fun _ => False) w w' := by
  have hmf : ∀ (fn : Fn) (first cap : Array Value) (w : World), (Instr.makeFunc fn first cap).run Tryz.prog w = .ok (.func fn first cap) w := fun _ _ _ _ => rfl
  obtain ⟨w1, hw1⟩ : ∃ w1, w1 = (w.alloc (.cells #[sv, cv, .int .i64 n] 242)).alloc (.cells #[bV c] 5) := ⟨_, rfl⟩
  have hc1 : Chg (fun _ => False) w w1 := by rw [hw1]; ((repeat (first | exact Chg.refl _ _ | assumption | refine Chg.drewN ?_ _ | refine Chg.drew ?_ | refine Chg.alloc ?_ _ | refine Chg.setCell ?_ (by first | (simp; done) | (simp; omega) | (intro h; simp at h; omega)) _)))
  have hp1 : Blk w1 w.heap.size 242 #[sv, cv, .int .i64 n] := by rw [hw1]; exact (Blk.new _ _ _).alloc _
  have hb1 : Blk w1 (w.heap.size + 1) 5 #[bV c] := by rw [hw1]; exact Blk.new1 _ _ _ _
  have hi := pl_index L sv _ c w1 (hL.same hc1) hb1 hl
  have y0 := hp1.cell 0
  simp at y0
  have HW1 := Lib.hid hw1
  have HC1 := Lib.hid hc1
  have HI := Lib.hid hi
  clear hw1 hc1 hi
  clear hL hp1 hb1
  go_enter Tryz.func172, Tryz.ntmps172
  go_upto_region 1 with fail
  rw [← HW1.out]
  go_wp2_with fail
  refine HI.out.mono ?_
  rintro e w2 ⟨rfl, h6⟩
  have hc := HC1.out.then h6
  have HC := Lib.hid hc
  clear hc
  go_wp2_with fail
  go_ret
  exact ⟨rfl, HC.out⟩
end Go.Proofs.YtjloddlkleileaaGreatDoor
