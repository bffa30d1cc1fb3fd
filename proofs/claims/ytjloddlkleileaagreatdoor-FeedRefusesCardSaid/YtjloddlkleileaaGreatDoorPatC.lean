/-
  The program's reader of patterns: op, step, cond.
-/
import Derived.Test.YtjloddlkleileaaGreatDoorPatB
namespace Go.Proofs.YtjloddlkleileaaGreatDoor
open Go.RowKit
set_option linter.unusedVariables false
set_option linter.unusedSimpArgs false

def stV (x : PStepV) : Value := .agg #[bV x.kind, bV x.name, .bool x.no, .int .i64 x.min, .int .i64 x.max]
def cdV (x : PCondV) : Value := .agg #[bV x.left, .int .i64 x.op, bV x.right, .int .i64 x.add]
theorem pa_has_yes {r : Nat} {s : ByteArray} {k : Nat} {a : UInt8} {x : Int} (hb : isB s.data.toList k a a = true) (hx : x = (a.toNat : Int)) (hk : k ≤ s.size) (hs : s.size ≤ 4096) {w : World} (hR : PRd w r s k) :
    Calls Tryz.prog 253 #[.pointer (some ⟨r, 0, none⟩), .int .u8 x] w fun e w' => e = .returned (.bool true) ∧ PRd w' r s (k + 1) ∧ k + 1 ≤ s.size ∧ Chg (fun k => k = r) w w' := by
  have := pa_has r s k a x hx hk hs w hR
  unfold hasK at this
  simp only [hb, if_true] at this
  exact this
theorem pa_has_no {r : Nat} {s : ByteArray} {k : Nat} {a : UInt8} {x : Int} (hb : isB s.data.toList k a a = false) (hx : x = (a.toNat : Int)) (hk : k ≤ s.size) (hs : s.size ≤ 4096) {w : World} (hR : PRd w r s k) :
    Calls Tryz.prog 253 #[.pointer (some ⟨r, 0, none⟩), .int .u8 x] w fun e w' => e = .returned (.bool false) ∧ PRd w' r s k ∧ k ≤ s.size ∧ Chg (fun k => k = r) w w' := by
  have := pa_has r s k a x hx hk hs w hR
  unfold hasK at this
  simp only [hb, Bool.false_eq_true, if_false] at this
  exact this
theorem pa_post {w w1 w2 : World} {r : Nat} {s : ByteArray} {v : (Value × Nat) ⊕ Int} {c : Int} {n : Int} (hv : v = .inr c) (h1 : Chg (fun k => k = r) w w1) (h2 : Chg (fun k => k = r) w1 w2) : PPost w r s v (.panicked [{ v := .iface 334 (.agg #[.int .i64 n, .int .i64 c]), recovered := false }]) w2 := by
  rw [hv]
  exact ⟨⟨_, rfl⟩, h1.then h2⟩
section
variable {S : Nat → Prop} {w w1 w' : World} {r g g' i : Nat} {s : ByteArray} {k : Nat} {o : Obj} {v : Value} {t : TypeId} {cs : Array Value}
theorem Blk.allocw (h : Blk w g t cs) (hw : w' = w.alloc o) : Blk w' g t cs := by rw [hw]; exact h.alloc o
theorem Blk.farw (h : Blk w g t cs) (hw : w' = w.setCell ⟨g', i, none⟩ v) (hne : g ≠ g') : Blk w' g t cs := by rw [hw]; exact h.far (p := ⟨g', i, none⟩) hne v
theorem Blk.setw (h : Blk w g t cs) (hw : w' = w.setCell ⟨g, i, none⟩ v) : Blk w' g t (cs.setIfInBounds i v) := by rw [hw]; exact h.set_ i v
theorem PRd.allocw (h : PRd w r s k) (hw : w' = w.alloc o) : PRd w' r s k := Blk.allocw h hw
theorem PRd.farw (h : PRd w r s k) (hw : w' = w.setCell ⟨g', i, none⟩ v) (hne : r ≠ g') : PRd w' r s k := Blk.farw h hw hne
theorem Chg.allocw (h : Chg S w w1) (hw : w' = w1.alloc o) : Chg S w w' := by rw [hw]; exact h.alloc o
theorem Chg.setw (h : Chg S w w1) (hw : w' = w1.setCell ⟨g, i, none⟩ v) (hg : w.heap.size ≤ g) : Chg S w w' := by rw [hw]; exact h.setCell (p := ⟨g, i, none⟩) (fun e => absurd e (Nat.not_lt.2 hg)) v
end
/- a call of has that finds its byte, or not: contract, number of the world behind -/
/- a call that may panic: contract, number behind, what it reads -/
/- has, the byte is there: which, at, place's bound, number -/
set_option maxRecDepth 100000 in
set_option maxHeartbeats 2000000 in
theorem pa_op (r : Nat) (s : ByteArray) (k : Nat) (hk : k ≤ s.size) (hs : s.size ≤ 4096) (w : World) (hR : PRd w r s k) : Calls Tryz.prog 335 #[.pointer (some ⟨r, 0, none⟩)] w (PPost w r s (ofN (opP s.data.toList k))) := by
  have hc : Chg (fun k => k = r) w w := Chg.refl _ _
  have he : opP s.data.toList k = opP s.data.toList k := rfl
  conv at he => rhs; unfold opP
  have HR := Lib.hid hR
  have HC := Lib.hid hc
  have HE := Lib.hid he
  clear hR hc he
  go_enter Tryz.func335, Tryz.ntmps335
  cases h1 : isB s.data.toList k 60 60 with
  | true =>
    have he := HE.out
    rw [if_pos h1] at he
    clear HE
    have HE := Lib.hid he
    clear he
    go_wp2_with fail
    refine (pa_has_yes h1 rfl hk hs HR.out).mono ?_
    rintro e w1 ⟨rfl, hR1, hk1, h6⟩
    have hc1 := HC.out.then h6
    clear HR HC
    have HR := Lib.hid hR1
    have HC := Lib.hid hc1
    clear hR1 hc1
    clear h1
    cases h2 : isB s.data.toList (k + 1) 61 61 with
    | true =>
      have he := HE.out
      rw [if_pos h2] at he
      clear HE
      have HE := Lib.hid he
      clear he
      go_wp2_with fail
      refine (pa_has_yes h2 rfl hk1 hs HR.out).mono ?_
      rintro e w2 ⟨rfl, hR2, hk2, h6⟩
      have hc2 := HC.out.then h6
      clear HR HC
      have HR := Lib.hid hR2
      have HC := Lib.hid hc2
      clear hR2 hc2
      clear h2
      go_wp2_with fail
      go_ret
      rw [HE.out]
      exact ⟨rfl, HR.out, hk2, HC.out⟩
    | false =>
      have he := HE.out
      rw [if_neg (by rw [h2]; decide)] at he
      clear HE
      have HE := Lib.hid he
      clear he
      go_wp2_with fail
      refine (pa_has_no h2 rfl hk1 hs HR.out).mono ?_
      rintro e w2 ⟨rfl, hR2, hk2, h6⟩
      have hc2 := HC.out.then h6
      clear HR HC
      have HR := Lib.hid hR2
      have HC := Lib.hid hc2
      clear hR2 hc2
      clear h2
      go_wp2_with fail
      go_ret
      rw [HE.out]
      exact ⟨rfl, HR.out, hk2, HC.out⟩
  | false =>
    have he := HE.out
    rw [if_neg (by rw [h1]; decide)] at he
    clear HE
    have HE := Lib.hid he
    clear he
    go_wp2_with fail
    refine (pa_has_no h1 rfl hk hs HR.out).mono ?_
    rintro e w1 ⟨rfl, hR1, hk1, h6⟩
    have hc1 := HC.out.then h6
    clear HR HC
    have HR := Lib.hid hR1
    have HC := Lib.hid hc1
    clear hR1 hc1
    clear h1
    cases h2 : isB s.data.toList k 62 62 with
    | true =>
      have he := HE.out
      rw [if_pos h2] at he
      clear HE
      have HE := Lib.hid he
      clear he
      go_wp2_with fail
      refine (pa_has_yes h2 rfl hk hs HR.out).mono ?_
      rintro e w2 ⟨rfl, hR2, hk2, h6⟩
      have hc2 := HC.out.then h6
      clear HR HC
      have HR := Lib.hid hR2
      have HC := Lib.hid hc2
      clear hR2 hc2
      clear h2
      cases h3 : isB s.data.toList (k + 1) 61 61 with
      | true =>
        have he := HE.out
        rw [if_pos h3] at he
        clear HE
        have HE := Lib.hid he
        clear he
        go_wp2_with fail
        refine (pa_has_yes h3 rfl hk2 hs HR.out).mono ?_
        rintro e w3 ⟨rfl, hR3, hk3, h6⟩
        have hc3 := HC.out.then h6
        clear HR HC
        have HR := Lib.hid hR3
        have HC := Lib.hid hc3
        clear hR3 hc3
        clear h3
        go_wp2_with fail
        go_ret
        rw [HE.out]
        exact ⟨rfl, HR.out, hk3, HC.out⟩
      | false =>
        have he := HE.out
        rw [if_neg (by rw [h3]; decide)] at he
        clear HE
        have HE := Lib.hid he
        clear he
        go_wp2_with fail
        refine (pa_has_no h3 rfl hk2 hs HR.out).mono ?_
        rintro e w3 ⟨rfl, hR3, hk3, h6⟩
        have hc3 := HC.out.then h6
        clear HR HC
        have HR := Lib.hid hR3
        have HC := Lib.hid hc3
        clear hR3 hc3
        clear h3
        go_wp2_with fail
        go_ret
        rw [HE.out]
        exact ⟨rfl, HR.out, hk3, HC.out⟩
    | false =>
      have he := HE.out
      rw [if_neg (by rw [h2]; decide)] at he
      clear HE
      have HE := Lib.hid he
      clear he
      go_wp2_with fail
      refine (pa_has_no h2 rfl hk hs HR.out).mono ?_
      rintro e w2 ⟨rfl, hR2, hk2, h6⟩
      have hc2 := HC.out.then h6
      clear HR HC
      have HR := Lib.hid hR2
      have HC := Lib.hid hc2
      clear hR2 hc2
      clear h2
      cases h3 : isB s.data.toList k 33 33 with
      | true =>
        have he := HE.out
        rw [if_pos h3] at he
        clear HE
        have HE := Lib.hid he
        clear he
        go_wp2_with fail
        refine (pa_has_yes h3 rfl hk hs HR.out).mono ?_
        rintro e w3 ⟨rfl, hR3, hk3, h6⟩
        have hc3 := HC.out.then h6
        clear HR HC
        have HR := Lib.hid hR3
        have HC := Lib.hid hc3
        clear hR3 hc3
        clear h3
        go_wp2_with fail
        refine (pa_word r s ⟨#[61]⟩ [61] rfl (k + 1) hk3 hs (by decide) _ HR.out).mono ?_
        intro e w4 h4
        cases hv4 : wordV s.data.toList [61] (k + 1) with
        | inr c =>
          rw [hv4] at h4
          obtain ⟨⟨n, rfl⟩, h6⟩ := h4
          have he := HE.out
          rw [hv4] at he
          have HE2 := Lib.hid he
          have H6 := Lib.hid h6
          clear he h6
          clear hv4
          go_wp2_with fail
          exact ⟨rfl, pa_post (by rw [HE2.out]; rfl) HC.out H6.out⟩
        | inl x =>
        obtain ⟨x4, k4⟩ := x
        rw [hv4] at h4
        obtain ⟨rfl, hR4, hk4, h6⟩ := h4
        have he := HE.out
        rw [hv4] at he
        simp only [PRes.bind] at he
        have hc4 := HC.out.then h6
        have H6 := Lib.hid h6
        clear h6
        clear HR HC HE hv4
        have HR := Lib.hid hR4
        have HC := Lib.hid hc4
        have HE := Lib.hid he
        clear hR4 hc4 he
        go_wp2_with fail
        go_ret
        rw [HE.out]
        exact ⟨rfl, HR.out, hk4, HC.out⟩
      | false =>
        have he := HE.out
        rw [if_neg (by rw [h3]; decide)] at he
        clear HE
        have HE := Lib.hid he
        clear he
        go_wp2_with fail
        refine (pa_has_no h3 rfl hk hs HR.out).mono ?_
        rintro e w3 ⟨rfl, hR3, hk3, h6⟩
        have hc3 := HC.out.then h6
        clear HR HC
        have HR := Lib.hid hR3
        have HC := Lib.hid hc3
        clear hR3 hc3
        clear h3
        go_wp2_with fail
        refine (pa_word r s ⟨#[61]⟩ [61] rfl k hk3 hs (by decide) _ HR.out).mono ?_
        intro e w4 h4
        cases hv4 : wordV s.data.toList [61] k with
        | inr c =>
          rw [hv4] at h4
          obtain ⟨⟨n, rfl⟩, h6⟩ := h4
          have he := HE.out
          rw [hv4] at he
          have HE2 := Lib.hid he
          have H6 := Lib.hid h6
          clear he h6
          clear hv4
          go_wp2_with fail
          exact ⟨rfl, pa_post (by rw [HE2.out]; rfl) HC.out H6.out⟩
        | inl x =>
        obtain ⟨x4, k4⟩ := x
        rw [hv4] at h4
        obtain ⟨rfl, hR4, hk4, h6⟩ := h4
        have he := HE.out
        rw [hv4] at he
        simp only [PRes.bind] at he
        have hc4 := HC.out.then h6
        have H6 := Lib.hid h6
        clear h6
        clear HR HC HE hv4
        have HR := Lib.hid hR4
        have HC := Lib.hid hc4
        have HE := Lib.hid he
        clear hR4 hc4 he
        go_wp2_with fail
        go_ret
        rw [HE.out]
        exact ⟨rfl, HR.out, hk4, HC.out⟩
set_option maxRecDepth 100000 in
set_option maxHeartbeats 4000000 in
theorem pa_step_many (r : Nat) (s : ByteArray) (k : Nat) (hk : k ≤ s.size) (hs : s.size ≤ 4096) (w : World) (hR : PRd w r s k) : Calls Tryz.prog 252 #[.pointer (some ⟨r, 0, none⟩), .int .i64 8] w (PPost w r s ((stepP s.data.toList k 8).map stV)) := by
  have he : stepP s.data.toList k 8 = .inr (stepMany s.data.toList k) := by rw [stepP, if_pos rfl]
  conv at he => rhs; unfold stepMany
  have hrl := hR.lt
  obtain ⟨w1, hw1⟩ : ∃ w1, w1 = w.alloc (.cells #[.int .u8 0, .int .u8 0, .bool false, .int .i64 0, .int .i64 0] 342) := ⟨_, rfl⟩
  have hc1 : Chg (fun k => k = r) w w1 := by rw [hw1]; ((repeat (first | exact Chg.refl _ _ | assumption | refine Chg.drewN ?_ _ | refine Chg.drew ?_ | refine Chg.alloc ?_ _ | refine Chg.setCell ?_ (by first | (simp; done) | (simp; omega) | (intro h; simp at h; omega)) _)))
  have hR1 : PRd w1 r s k := by rw [hw1]; exact Blk.alloc hR _
  have y1 := hR1.cell 1
  simp at y1
  have HR := Lib.hid hR1
  have HC := Lib.hid hc1
  have HE := Lib.hid he
  have HW1 := Lib.hid hw1
  clear hR1 hc1 he hw1
  clear hR
  go_enter Tryz.func252, Tryz.ntmps252
  go_upto_region 1 with fail
  rw [← HW1.out]
  cases h1 : isB s.data.toList k 33 33 with
  | true =>
    have he := HE.out
    rw [if_pos h1] at he
    clear HE
    have HE := Lib.hid he
    clear he
    go_wp2_with fail
    refine (pa_has_yes h1 rfl hk hs HR.out).mono ?_
    rintro e w2 ⟨rfl, hR2, hk2, h6⟩
    have hc2 := HC.out.then h6
    clear HR HC
    have HR := Lib.hid hR2
    have HC := Lib.hid hc2
    clear hR2 hc2
    clear h1
    go_wp2_with fail
    refine (pa_fail _ _ _ _).mono ?_
    rintro e w3 ⟨rfl, rfl⟩
    go_wp2_with fail
    exact ⟨rfl, pa_post (by rw [HE.out]; rfl) HC.out (Chg.refl _ _)⟩
  | false =>
    have he := HE.out
    rw [if_neg (by rw [h1]; decide)] at he
    clear HE
    have HE := Lib.hid he
    clear he
    go_wp2_with fail
    refine (pa_has_no h1 rfl hk hs HR.out).mono ?_
    rintro e w2 ⟨rfl, hR2, hk2, h6⟩
    have hc2 := HC.out.then h6
    clear HR HC
    have HR := Lib.hid hR2
    have HC := Lib.hid hc2
    clear hR2 hc2
    clear h1
    have ho := pa_one r s k 65 90 65 90 rfl rfl hk hs _ HR.out
    unfold oneV at ho
    cases h2 : isB s.data.toList k 65 90 with
    | true =>
      have he := HE.out
      rw [if_pos h2] at he
      clear HE
      have HE := Lib.hid he
      clear he
      rw [if_pos h2] at ho
      have HO := Lib.hid ho
      clear ho
      clear h2
      go_wp2_with fail
      refine HO.out.mono ?_
      rintro e w3 ⟨rfl, hR3, hk3, h6⟩
      have H6 := Lib.hid h6
      clear h6
      go_wp2_with fail
      refine (pa_fail _ _ _ _).mono ?_
      rintro e w4 ⟨rfl, rfl⟩
      go_wp2_with fail
      exact ⟨rfl, pa_post (by rw [HE.out]; rfl) HC.out H6.out⟩
    | false =>
      have he := HE.out
      rw [if_neg (by rw [h2]; decide)] at he
      clear HE
      have HE := Lib.hid he
      clear he
      rw [if_neg (by rw [h2]; decide)] at ho
      have HO := Lib.hid ho
      clear ho
      clear h2
      go_wp2_with fail
      refine HO.out.mono ?_
      rintro e w3 ⟨⟨n, rfl⟩, h6⟩
      have H6 := Lib.hid h6
      clear h6
      go_wp2_with fail
      exact ⟨rfl, pa_post (by rw [HE.out]; rfl) HC.out H6.out⟩
/- behind a call: both blocks of the walk are as they were -/
/- a field of the struct is set: world's number, field, value, new number -/
/- the end: world's number, the five values, k's bound -/
set_option maxRecDepth 100000 in
set_option maxHeartbeats 4000000 in
theorem pa_step (r : Nat) (s : ByteArray) (k n : Nat) (hn : n ≠ 8) (hk : k ≤ s.size) (hs : s.size ≤ 4096) (w : World) (hR : PRd w r s k) : Calls Tryz.prog 252 #[.pointer (some ⟨r, 0, none⟩), .int .i64 (n : Int)] w (PPost w r s ((stepP s.data.toList k n).map stV)) := by
  have he : stepP s.data.toList k n = stepP s.data.toList k n := rfl
  conv at he => rhs; rw [stepP, if_neg hn]
  have hka : (if isB s.data.toList k 33 33 then k + 1 else k) = hasK s k 33 := rfl
  rw [hka] at he
  have q : ((n : Int) == 8) = false := by rw [beq_eq_false_iff_ne]; omega
  have hrl := hR.lt
  obtain ⟨w1, hw1⟩ : ∃ w1, w1 = w.alloc (.cells #[.int .u8 0, .int .u8 0, .bool false, .int .i64 0, .int .i64 0] 342) := ⟨_, rfl⟩
  have hc1 : Chg (fun k => k = r) w w1 := by rw [hw1]; ((repeat (first | exact Chg.refl _ _ | assumption | refine Chg.drewN ?_ _ | refine Chg.drew ?_ | refine Chg.alloc ?_ _ | refine Chg.setCell ?_ (by first | (simp; done) | (simp; omega) | (intro h; simp at h; omega)) _)))
  have hR1 : PRd w1 r s k := by rw [hw1]; exact Blk.alloc hR _
  have hb1 : Blk w1 w.heap.size 342 #[.int .u8 0, .int .u8 0, .bool false, .int .i64 0, .int .i64 0] := by rw [hw1]; exact Blk.new _ _ _
  have y1 := hR1.cell 1
  simp at y1
  have HR := Lib.hid hR1
  have HC := Lib.hid hc1
  have HE := Lib.hid he
  have HW1 := Lib.hid hw1
  have HB := Lib.hid hb1
  clear hR1 hc1 he hw1 hb1
  clear hR hn hka
  go_enter Tryz.func252, Tryz.ntmps252
  go_upto_region 1 with fail
  rw [← HW1.out]
  obtain ⟨g, hg'⟩ : ∃ g, w.heap.size = g := ⟨_, rfl⟩
  rw [hg'] at HB ⊢
  have hg : r < g := by omega
  have hgw : w.heap.size ≤ g := by omega
  have HG' := Lib.hid hg'
  clear hg'
  go_wp2_with fail
  refine (pa_has r s k 33 33 rfl hk hs _ HR.out).mono ?_
  rintro e w2 ⟨rfl, hR2, hk2, h6⟩
  obtain ⟨b, hb⟩ : ∃ b, isB s.data.toList k 33 33 = b := ⟨_, rfl⟩
  have he := HE.out
  rw [hb] at he ⊢
  have hc2 := HC.out.then h6
  have hb2 := HB.out.chg h6 (Nat.ne_of_gt hg)
  clear HE HC HR HB y1
  have HE := Lib.hid he
  have HC := Lib.hid hc2
  have HR := Lib.hid hR2
  have HB := Lib.hid hb2
  clear he hc2 hR2 hb2
  have hgs2 : r < w2.heap.size := Blk.lt HR.out
  have hgb2 : g < w2.heap.size := Blk.lt HB.out
  have hgl2 : w.heap.size ≤ w2.heap.size := HC.out.size
  obtain ⟨w3, hw3⟩ : ∃ w3, w3 = w2.alloc (.cells #[.int .u8 0, .int .u8 0, .bool b, .int .i64 1, .int .i64 1] 342) := ⟨_, rfl⟩
  have hc3 : Chg (fun k => k = r) w w3 := by rw [hw3]; exact HC.out.alloc _
  have hR3 := HR.out.allocw hw3
  have hb3 := HB.out.allocw hw3
  have hz3 : Blk w3 w2.heap.size 342 #[.int .u8 0, .int .u8 0, .bool b, .int .i64 1, .int .i64 1] := by rw [hw3]; exact Blk.new _ _ _
  clear HR HC HB
  have HR := Lib.hid hR3
  have HC := Lib.hid hc3
  have HB := Lib.hid hb3
  have HZ := Lib.hid hz3
  have HW3 := Lib.hid hw3
  clear hR3 hc3 hb3 hz3 hw3
  go_upto_region 7 with fail
  rw [← HW3.out]
  obtain ⟨gs, hgs'⟩ : ∃ gs, w2.heap.size = gs := ⟨_, rfl⟩
  rw [hgs'] at HZ ⊢
  have hgs : r < gs := by omega
  have hgw2 : w.heap.size ≤ gs := by omega
  have hgg : g ≠ gs := by omega
  clear hgs' hgs2 hgb2 hgl2 HW3 h6
  go_wp2_with fail
  refine (pa_one r s _ 65 90 65 90 rfl rfl hk2 hs _ HR.out).mono ?_
  intro e w4 h4
  cases hv4 : oneV s.data.toList (hasK s k 33) 65 90 with
  | inr c =>
    rw [hv4] at h4
    obtain ⟨⟨n, rfl⟩, h6⟩ := h4
    have he := HE.out
    rw [hv4] at he
    have HE2 := Lib.hid he
    have H6 := Lib.hid h6
    clear he h6
    clear hv4
    go_wp2_with fail
    exact ⟨rfl, pa_post (by rw [HE2.out]; rfl) HC.out H6.out⟩
  | inl x =>
  obtain ⟨x4, k4⟩ := x
  rw [hv4] at h4
  obtain ⟨rfl, hR4, hk4, h6⟩ := h4
  have he := HE.out
  rw [hv4] at he
  simp only [PRes.bind] at he
  have hc4 := HC.out.then h6
  have H6 := Lib.hid h6
  clear h6
  clear HR HC HE hv4
  have HR := Lib.hid hR4
  have HC := Lib.hid hc4
  have HE := Lib.hid he
  clear hR4 hc4 he
  have hb := HB.out.chg H6.out (Nat.ne_of_gt hg)
  have hz := HZ.out.chg H6.out (Nat.ne_of_gt hgs)
  clear HB HZ H6
  have HB := Lib.hid hb
  have HZ := Lib.hid hz
  clear hb hz
  have z0 := HZ.out.cell 0
  have z1 := HZ.out.cell 1
  have z2 := HZ.out.cell 2
  have z3 := HZ.out.cell 3
  have z4 := HZ.out.cell 4
  simp at z0 z1 z2 z3 z4
  have zf0 := HZ.out.frozen 0
  have zf1 := HZ.out.frozen 1
  have zf2 := HZ.out.frozen 2
  have zf3 := HZ.out.frozen 3
  have zf4 := HZ.out.frozen 4
  go_upto_region 8 with fail
  obtain ⟨w5, hw5⟩ : ∃ w', w' = w4.setCell ⟨gs, 0, none⟩ (bV x4) := ⟨_, rfl⟩
  rw [← hw5]
  have hR3 := HR.out.farw hw5 (Nat.ne_of_lt hgs)
  have hc3 := HC.out.setw hw5 hgw2
  have hb3 := HB.out.farw hw5 hgg
  have hz3 := HZ.out.setw hw5
  simp only [List.setIfInBounds_toArray, List.set_cons_zero, List.set_cons_succ] at hz3
  clear HR HC HB HZ hw5
  have HR := Lib.hid hR3
  have HC := Lib.hid hc3
  have HB := Lib.hid hb3
  have HZ := Lib.hid hz3
  clear hR3 hc3 hb3 hz3
  clear z0 z1 z2 z3 z4 zf0 zf1 zf2 zf3 zf4
  go_wp2_with fail
  refine (pa_word r s ⟨#[32]⟩ [32] rfl k4 hk4 hs (by decide) _ HR.out).mono ?_
  intro e w6 h6
  cases hv6 : wordV s.data.toList [32] k4 with
  | inr c =>
    rw [hv6] at h6
    obtain ⟨⟨n, rfl⟩, h6⟩ := h6
    have he := HE.out
    rw [hv6] at he
    have HE2 := Lib.hid he
    have H6 := Lib.hid h6
    clear he h6
    clear hv6
    go_wp2_with fail
    exact ⟨rfl, pa_post (by rw [HE2.out]; rfl) HC.out H6.out⟩
  | inl x =>
  obtain ⟨x6, k6⟩ := x
  rw [hv6] at h6
  obtain ⟨rfl, hR6, hk6, h6⟩ := h6
  have he := HE.out
  rw [hv6] at he
  simp only [PRes.bind] at he
  have hc6 := HC.out.then h6
  have H6 := Lib.hid h6
  clear h6
  clear HR HC HE hv6
  have HR := Lib.hid hR6
  have HC := Lib.hid hc6
  have HE := Lib.hid he
  clear hR6 hc6 he
  have hb := HB.out.chg H6.out (Nat.ne_of_gt hg)
  have hz := HZ.out.chg H6.out (Nat.ne_of_gt hgs)
  clear HB HZ H6
  have HB := Lib.hid hb
  have HZ := Lib.hid hz
  clear hb hz
  go_wp2_with fail
  refine (pa_one r s _ 97 122 97 122 rfl rfl hk6 hs _ HR.out).mono ?_
  intro e w7 h7
  cases hv7 : oneV s.data.toList k6 97 122 with
  | inr c =>
    rw [hv7] at h7
    obtain ⟨⟨n, rfl⟩, h6⟩ := h7
    have he := HE.out
    rw [hv7] at he
    have HE2 := Lib.hid he
    have H6 := Lib.hid h6
    clear he h6
    clear hv7
    go_wp2_with fail
    exact ⟨rfl, pa_post (by rw [HE2.out]; rfl) HC.out H6.out⟩
  | inl x =>
  obtain ⟨x7, k7⟩ := x
  rw [hv7] at h7
  obtain ⟨rfl, hR7, hk7, h6⟩ := h7
  have he := HE.out
  rw [hv7] at he
  simp only [PRes.bind] at he
  have hc7 := HC.out.then h6
  have H6 := Lib.hid h6
  clear h6
  clear HR HC HE hv7
  have HR := Lib.hid hR7
  have HC := Lib.hid hc7
  have HE := Lib.hid he
  clear hR7 hc7 he
  have hb := HB.out.chg H6.out (Nat.ne_of_gt hg)
  have hz := HZ.out.chg H6.out (Nat.ne_of_gt hgs)
  clear HB HZ H6
  have HB := Lib.hid hb
  have HZ := Lib.hid hz
  clear hb hz
  have z0 := HZ.out.cell 0
  have z1 := HZ.out.cell 1
  have z2 := HZ.out.cell 2
  have z3 := HZ.out.cell 3
  have z4 := HZ.out.cell 4
  simp at z0 z1 z2 z3 z4
  have zf0 := HZ.out.frozen 0
  have zf1 := HZ.out.frozen 1
  have zf2 := HZ.out.frozen 2
  have zf3 := HZ.out.frozen 3
  have zf4 := HZ.out.frozen 4
  go_upto_region 10 with fail
  obtain ⟨w8, hw8⟩ : ∃ w', w' = w7.setCell ⟨gs, 1, none⟩ (bV x7) := ⟨_, rfl⟩
  rw [← hw8]
  have hR3 := HR.out.farw hw8 (Nat.ne_of_lt hgs)
  have hc3 := HC.out.setw hw8 hgw2
  have hb3 := HB.out.farw hw8 hgg
  have hz3 := HZ.out.setw hw8
  simp only [List.setIfInBounds_toArray, List.set_cons_zero, List.set_cons_succ] at hz3
  clear HR HC HB HZ hw8
  have HR := Lib.hid hR3
  have HC := Lib.hid hc3
  have HB := Lib.hid hb3
  have HZ := Lib.hid hz3
  clear hR3 hc3 hb3 hz3
  clear z0 z1 z2 z3 z4 zf0 zf1 zf2 zf3 zf4
  have y1 := HR.out.cell 1
  simp at y1
  go_wp2_with fail
  cases h1 : isB s.data.toList k7 123 123 with
  | false =>
    have he := HE.out
    rw [if_neg (by rw [h1]; decide)] at he
    clear HE
    have HE := Lib.hid he
    clear he
    refine (pa_has_no h1 rfl hk7 hs HR.out).mono ?_
    rintro e w9 ⟨rfl, hR9, hk9, h6⟩
    have hc9 := HC.out.then h6
    have H6 := Lib.hid h6
    clear h6
    clear HR HC h1 y1
    have HR := Lib.hid hR9
    have HC := Lib.hid hc9
    clear hR9 hc9
    have hb := HB.out.chg H6.out (Nat.ne_of_gt hg)
    have hz := HZ.out.chg H6.out (Nat.ne_of_gt hgs)
    clear HB HZ H6
    have HB := Lib.hid hb
    have HZ := Lib.hid hz
    clear hb hz
    have z0 := HZ.out.cell 0
    have z1 := HZ.out.cell 1
    have z2 := HZ.out.cell 2
    have z3 := HZ.out.cell 3
    have z4 := HZ.out.cell 4
    simp at z0 z1 z2 z3 z4
    have zf0 := HZ.out.frozen 0
    have zf1 := HZ.out.frozen 1
    have zf2 := HZ.out.frozen 2
    have zf3 := HZ.out.frozen 3
    have zf4 := HZ.out.frozen 4
    have y0 := HB.out.cell 0
    have y1 := HB.out.cell 1
    have y2 := HB.out.cell 2
    have y3 := HB.out.cell 3
    have y4 := HB.out.cell 4
    simp at y0 y1 y2 y3 y4
    have yf0 := HB.out.frozen 0
    have yf1 := HB.out.frozen 1
    have yf2 := HB.out.frozen 2
    have yf3 := HB.out.frozen 3
    have yf4 := HB.out.frozen 4
    go_wp2_with fail
    obtain ⟨wz, hwz⟩ : ∃ wz : World, wz = (((((w9.setCell ⟨g, 0, none⟩ (bV x4)).setCell ⟨g, 1, none⟩ (bV x7)).setCell ⟨g, 2, none⟩ (.bool b)).setCell ⟨g, 3, none⟩ (.int .i64 1)).setCell ⟨g, 4, none⟩ (.int .i64 1)) := ⟨_, rfl⟩
    have hb9 : Blk wz g 342 #[bV x4, bV x7, .bool b, .int .i64 1, .int .i64 1] := by
      rw [hwz]
      simpa using ((((HB.out.set_ 0 (bV x4)).set_ 1 (bV x7)).set_ 2 (.bool b)).set_ 3 (.int .i64 1)).set_ 4 (.int .i64 1)
    have hr9 := ((((HR.out.farw rfl (Nat.ne_of_lt hg)).farw rfl (Nat.ne_of_lt hg)).farw rfl (Nat.ne_of_lt hg)).farw rfl (Nat.ne_of_lt hg)).farw hwz (Nat.ne_of_lt hg)
    have hc9 : Chg (fun k => k = r) w wz := by rw [hwz]; have := HC.out; ((repeat (first | with_reducible exact Chg.refl _ _ | with_reducible assumption | with_reducible refine Chg.drewN ?_ _ | with_reducible refine Chg.drew ?_ | with_reducible refine Chg.alloc ?_ _ | with_reducible refine Chg.setCell ?_ (by first | (simp; done) | (simp; omega) | (intro h; simp at h; omega)) _)))
    rw [← hwz]
    have zx0 := hb9.cell 0
    have zx1 := hb9.cell 1
    have zx2 := hb9.cell 2
    have zx3 := hb9.cell 3
    have zx4 := hb9.cell 4
    simp at zx0 zx1 zx2 zx3 zx4
    refine bodyPost_ret (v := .agg #[bV x4, bV x7, .bool b, .int .i64 1, .int .i64 1]) (by simp [results, Tryz.results252, go_sem, zx0, zx1, zx2, zx3, zx4]) rfl ?_
    rw [HE.out]
    exact ⟨rfl, hr9, hk9, hc9⟩
  | true =>
    have he := HE.out
    rw [if_pos h1] at he
    clear HE
    have HE := Lib.hid he
    clear he
    refine (pa_has_yes h1 rfl hk7 hs HR.out).mono ?_
    rintro e w9 ⟨rfl, hR9, hk9, h6⟩
    have hc9 := HC.out.then h6
    have H6 := Lib.hid h6
    clear h6
    clear HR HC h1 y1
    have HR := Lib.hid hR9
    have HC := Lib.hid hc9
    clear hR9 hc9
    have hb := HB.out.chg H6.out (Nat.ne_of_gt hg)
    have hz := HZ.out.chg H6.out (Nat.ne_of_gt hgs)
    clear HB HZ H6
    have HB := Lib.hid hb
    have HZ := Lib.hid hz
    clear hb hz
    have z0 := HZ.out.cell 0
    have z1 := HZ.out.cell 1
    have z2 := HZ.out.cell 2
    have z3 := HZ.out.cell 3
    have z4 := HZ.out.cell 4
    simp at z0 z1 z2 z3 z4
    cases b with
    | true =>
      have he := HE.out
      rw [if_pos rfl] at he
      clear HE
      have HE := Lib.hid he
      clear he
      go_wp2_with fail
      refine (pa_fail _ _ _ _).mono ?_
      rintro e w4 ⟨rfl, rfl⟩
      go_wp2_with fail
      exact ⟨rfl, pa_post (by rw [HE.out]; rfl) HC.out (Chg.refl _ _)⟩
    | false =>
      have he := HE.out
      rw [if_neg (by decide)] at he
      conv at he => rhs; unfold stepBounds
      clear HE
      have HE := Lib.hid he
      clear he
      go_wp2_with fail
      refine (pa_number r s _ 48 48 rfl (by decide) hk9 hs _ HR.out).mono ?_
      intro e w11 h11
      cases hv11 : numberP s.data.toList (k7 + 1) 48 with
      | inr c =>
        rw [hv11] at h11
        obtain ⟨⟨n, rfl⟩, h6⟩ := h11
        have he := HE.out
        rw [hv11] at he
        have HE2 := Lib.hid he
        have H6 := Lib.hid h6
        clear he h6
        clear hv11
        go_wp2_with fail
        exact ⟨rfl, pa_post (by rw [HE2.out]; rfl) HC.out H6.out⟩
      | inl x =>
      obtain ⟨x11, k11⟩ := x
      rw [hv11] at h11
      obtain ⟨rfl, hR11, hk11, h6⟩ := h11
      have he := HE.out
      rw [hv11] at he
      simp only [PRes.bind] at he
      have hc11 := HC.out.then h6
      have H6 := Lib.hid h6
      clear h6
      clear HR HC HE hv11
      have HR := Lib.hid hR11
      have HC := Lib.hid hc11
      have HE := Lib.hid he
      clear hR11 hc11 he
      have hb := HB.out.chg H6.out (Nat.ne_of_gt hg)
      have hz := HZ.out.chg H6.out (Nat.ne_of_gt hgs)
      clear HB HZ H6
      have HB := Lib.hid hb
      have HZ := Lib.hid hz
      clear hb hz
      go_wp2_with fail
      refine (pa_word r s ⟨#[44]⟩ [44] rfl k11 hk11 hs (by decide) _ HR.out).mono ?_
      intro e w12 h12
      cases hv12 : wordV s.data.toList [44] k11 with
      | inr c =>
        rw [hv12] at h12
        obtain ⟨⟨n, rfl⟩, h6⟩ := h12
        have he := HE.out
        rw [hv12] at he
        have HE2 := Lib.hid he
        have H6 := Lib.hid h6
        clear he h6
        clear hv12
        go_wp2_with fail
        exact ⟨rfl, pa_post (by rw [HE2.out]; rfl) HC.out H6.out⟩
      | inl x =>
      obtain ⟨x12, k12⟩ := x
      rw [hv12] at h12
      obtain ⟨rfl, hR12, hk12, h6⟩ := h12
      have he := HE.out
      rw [hv12] at he
      simp only [PRes.bind] at he
      have hc12 := HC.out.then h6
      have H6 := Lib.hid h6
      clear h6
      clear HR HC HE hv12
      have HR := Lib.hid hR12
      have HC := Lib.hid hc12
      have HE := Lib.hid he
      clear hR12 hc12 he
      have hb := HB.out.chg H6.out (Nat.ne_of_gt hg)
      have hz := HZ.out.chg H6.out (Nat.ne_of_gt hgs)
      clear HB HZ H6
      have HB := Lib.hid hb
      have HZ := Lib.hid hz
      clear hb hz
      go_wp2_with fail
      refine (pa_number r s _ 48 48 rfl (by decide) hk12 hs _ HR.out).mono ?_
      intro e w13 h13
      cases hv13 : numberP s.data.toList k12 48 with
      | inr c =>
        rw [hv13] at h13
        obtain ⟨⟨n, rfl⟩, h6⟩ := h13
        have he := HE.out
        rw [hv13] at he
        have HE2 := Lib.hid he
        have H6 := Lib.hid h6
        clear he h6
        clear hv13
        go_wp2_with fail
        exact ⟨rfl, pa_post (by rw [HE2.out]; rfl) HC.out H6.out⟩
      | inl x =>
      obtain ⟨x13, k13⟩ := x
      rw [hv13] at h13
      obtain ⟨rfl, hR13, hk13, h6⟩ := h13
      have he := HE.out
      rw [hv13] at he
      simp only [PRes.bind] at he
      have hc13 := HC.out.then h6
      have H6 := Lib.hid h6
      clear h6
      clear HR HC HE hv13
      have HR := Lib.hid hR13
      have HC := Lib.hid hc13
      have HE := Lib.hid he
      clear hR13 hc13 he
      have hb := HB.out.chg H6.out (Nat.ne_of_gt hg)
      have hz := HZ.out.chg H6.out (Nat.ne_of_gt hgs)
      clear HB HZ H6
      have HB := Lib.hid hb
      have HZ := Lib.hid hz
      clear hb hz
      go_wp2_with fail
      refine (pa_word r s ⟨#[125]⟩ [125] rfl k13 hk13 hs (by decide) _ HR.out).mono ?_
      intro e w14 h14
      cases hv14 : wordV s.data.toList [125] k13 with
      | inr c =>
        rw [hv14] at h14
        obtain ⟨⟨n, rfl⟩, h6⟩ := h14
        have he := HE.out
        rw [hv14] at he
        have HE2 := Lib.hid he
        have H6 := Lib.hid h6
        clear he h6
        clear hv14
        go_wp2_with fail
        exact ⟨rfl, pa_post (by rw [HE2.out]; rfl) HC.out H6.out⟩
      | inl x =>
      obtain ⟨x14, k14⟩ := x
      rw [hv14] at h14
      obtain ⟨rfl, hR14, hk14, h6⟩ := h14
      have he := HE.out
      rw [hv14] at he
      simp only [PRes.bind] at he
      have hc14 := HC.out.then h6
      have H6 := Lib.hid h6
      clear h6
      clear HR HC HE hv14
      have HR := Lib.hid hR14
      have HC := Lib.hid hc14
      have HE := Lib.hid he
      clear hR14 hc14 he
      have hb := HB.out.chg H6.out (Nat.ne_of_gt hg)
      have hz := HZ.out.chg H6.out (Nat.ne_of_gt hgs)
      clear HB HZ H6
      have HB := Lib.hid hb
      have HZ := Lib.hid hz
      clear hb hz
      clear z0 z1 z2 z3 z4
      by_cases hb : x11 < 1 ∨ x11 > x13 ∨ x13 > 4 ∨ x13 = 1
      · have he := HE.out
        rw [if_pos hb] at he
        clear HE
        have HE := Lib.hid he
        clear he
        have hq : decide (x11 < 1) = true ∨ (decide (x11 < 1) = false ∧ decide (x11 > x13) = true) ∨ (decide (x11 < 1) = false ∧ decide (x11 > x13) = false ∧ decide (x13 > 4) = true) ∨ (decide (x11 < 1) = false ∧ decide (x11 > x13) = false ∧ decide (x13 > 4) = false ∧ (x13 == 1) = true) := by
          simp only [decide_eq_true_eq, decide_eq_false_iff_not, beq_iff_eq]
          omega
        clear hb
        rcases hq with q1 | ⟨q1, q2⟩ | ⟨q1, q2, q3⟩ | ⟨q1, q2, q3, q4⟩
        all_goals
          go_wp2_with fail
          refine (pa_fail _ _ _ _).mono ?_
          rintro e w4 ⟨rfl, rfl⟩
          go_wp2_with fail
          exact ⟨rfl, pa_post (by rw [HE.out]; rfl) HC.out (Chg.refl _ _)⟩
      · have he := HE.out
        rw [if_neg hb] at he
        clear HE
        have HE := Lib.hid he
        clear he
        have q1 : decide (x11 < 1) = false := by simp; omega
        have q2 : decide (x11 > x13) = false := by simp; omega
        have q3 : decide (x13 > 4) = false := by simp; omega
        have q4 : (x13 == 1) = false := by rw [beq_eq_false_iff_ne]; omega
        clear hb
        have z0 := HZ.out.cell 0
        have z1 := HZ.out.cell 1
        have z2 := HZ.out.cell 2
        have z3 := HZ.out.cell 3
        have z4 := HZ.out.cell 4
        simp at z0 z1 z2 z3 z4
        have zf0 := HZ.out.frozen 0
        have zf1 := HZ.out.frozen 1
        have zf2 := HZ.out.frozen 2
        have zf3 := HZ.out.frozen 3
        have zf4 := HZ.out.frozen 4
        go_upto_region 22 with fail
        obtain ⟨w15, hw15⟩ : ∃ w', w' = w14.setCell ⟨gs, 3, none⟩ (.int .i64 x11) := ⟨_, rfl⟩
        rw [← hw15]
        have hR3 := HR.out.farw hw15 (Nat.ne_of_lt hgs)
        have hc3 := HC.out.setw hw15 hgw2
        have hb3 := HB.out.farw hw15 hgg
        have hz3 := HZ.out.setw hw15
        simp only [List.setIfInBounds_toArray, List.set_cons_zero, List.set_cons_succ] at hz3
        clear HR HC HB HZ hw15
        have HR := Lib.hid hR3
        have HC := Lib.hid hc3
        have HB := Lib.hid hb3
        have HZ := Lib.hid hz3
        clear hR3 hc3 hb3 hz3
        obtain ⟨w16, hw16⟩ : ∃ w', w' = w15.setCell ⟨gs, 4, none⟩ (.int .i64 x13) := ⟨_, rfl⟩
        rw [← hw16]
        have hR3 := HR.out.farw hw16 (Nat.ne_of_lt hgs)
        have hc3 := HC.out.setw hw16 hgw2
        have hb3 := HB.out.farw hw16 hgg
        have hz3 := HZ.out.setw hw16
        simp only [List.setIfInBounds_toArray, List.set_cons_zero, List.set_cons_succ] at hz3
        clear HR HC HB HZ hw16
        have HR := Lib.hid hR3
        have HC := Lib.hid hc3
        have HB := Lib.hid hb3
        have HZ := Lib.hid hz3
        clear hR3 hc3 hb3 hz3
        clear z0 z1 z2 z3 z4 zf0 zf1 zf2 zf3 zf4
        have z0 := HZ.out.cell 0
        have z1 := HZ.out.cell 1
        have z2 := HZ.out.cell 2
        have z3 := HZ.out.cell 3
        have z4 := HZ.out.cell 4
        simp at z0 z1 z2 z3 z4
        have zf0 := HZ.out.frozen 0
        have zf1 := HZ.out.frozen 1
        have zf2 := HZ.out.frozen 2
        have zf3 := HZ.out.frozen 3
        have zf4 := HZ.out.frozen 4
        have y0 := HB.out.cell 0
        have y1 := HB.out.cell 1
        have y2 := HB.out.cell 2
        have y3 := HB.out.cell 3
        have y4 := HB.out.cell 4
        simp at y0 y1 y2 y3 y4
        have yf0 := HB.out.frozen 0
        have yf1 := HB.out.frozen 1
        have yf2 := HB.out.frozen 2
        have yf3 := HB.out.frozen 3
        have yf4 := HB.out.frozen 4
        go_wp2_with fail
        obtain ⟨wz, hwz⟩ : ∃ wz : World, wz = (((((w16.setCell ⟨g, 0, none⟩ (bV x4)).setCell ⟨g, 1, none⟩ (bV x7)).setCell ⟨g, 2, none⟩ (.bool false)).setCell ⟨g, 3, none⟩ (.int .i64 x11)).setCell ⟨g, 4, none⟩ (.int .i64 x13)) := ⟨_, rfl⟩
        have hb9 : Blk wz g 342 #[bV x4, bV x7, .bool false, .int .i64 x11, .int .i64 x13] := by
          rw [hwz]
          simpa using ((((HB.out.set_ 0 (bV x4)).set_ 1 (bV x7)).set_ 2 (.bool false)).set_ 3 (.int .i64 x11)).set_ 4 (.int .i64 x13)
        have hr9 := ((((HR.out.farw rfl (Nat.ne_of_lt hg)).farw rfl (Nat.ne_of_lt hg)).farw rfl (Nat.ne_of_lt hg)).farw rfl (Nat.ne_of_lt hg)).farw hwz (Nat.ne_of_lt hg)
        have hc9 : Chg (fun k => k = r) w wz := by rw [hwz]; have := HC.out; ((repeat (first | with_reducible exact Chg.refl _ _ | with_reducible assumption | with_reducible refine Chg.drewN ?_ _ | with_reducible refine Chg.drew ?_ | with_reducible refine Chg.alloc ?_ _ | with_reducible refine Chg.setCell ?_ (by first | (simp; done) | (simp; omega) | (intro h; simp at h; omega)) _)))
        rw [← hwz]
        have zx0 := hb9.cell 0
        have zx1 := hb9.cell 1
        have zx2 := hb9.cell 2
        have zx3 := hb9.cell 3
        have zx4 := hb9.cell 4
        simp at zx0 zx1 zx2 zx3 zx4
        refine bodyPost_ret (v := .agg #[bV x4, bV x7, .bool false, .int .i64 x11, .int .i64 x13]) (by simp [results, Tryz.results252, go_sem, zx0, zx1, zx2, zx3, zx4]) rfl ?_
        rw [HE.out]
        exact ⟨rfl, hr9, hk14, hc9⟩
end Go.Proofs.YtjloddlkleileaaGreatDoor
