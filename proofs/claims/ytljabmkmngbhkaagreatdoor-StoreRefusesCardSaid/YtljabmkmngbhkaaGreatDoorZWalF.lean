/-
  The program's logs: calls one behind the other.
-/
import Derived.Test.YtljabmkmngbhkaaGreatDoorZMg10
import Derived.Outline
namespace Go.Proofs.YtljabmkmngbhkaaGreatDoor
open Go.RowKit
set_option linter.unusedVariables false
set_option linter.unusedSimpArgs false

/-- 2 calls, one behind the other: the first error ends them. -/
def FirstPost2 (Q1 Q2 : Int → World → Prop) (e : Ending) (w' : World) : Prop := ∃ n : Int, e = .returned (.int .i64 n) ∧ ((n ≠ 0 ∧ Q1 n w') ∨ Q2 n w')
set_option maxRecDepth 100000 in
set_option maxHeartbeats 2000000 in
theorem wal_first2 (g K1 K2 : Nat) (a1 c1 a2 c2 : Array Value) (Q1 Q2 : Int → World → Prop) (w : World) (hb : Blk w g 53 #[.func (.func K1) a1 c1, .func (.func K2) a2 c2])
    (hf1 : ∀ (W : World), (callFunc K1 (a1 ++ c1)).run Tryz.prog W = .ok (.enter K1 (a1 ++ c1)) W)
    (hf2 : ∀ (W : World), (callFunc K2 (a2 ++ c2)).run Tryz.prog W = .ok (.enter K2 (a2 ++ c2)) W)
    (h1 : Calls Tryz.prog K1 (a1 ++ c1) w fun e w' => ∃ n : Int, e = .returned (.int .i64 n) ∧ Q1 n w')
    (hg1 : ∀ n w', Q1 n w' → Blk w' g 53 #[.func (.func K1) a1 c1, .func (.func K2) a2 c2])
    (h2 : ∀ w', Q1 0 w' → Calls Tryz.prog K2 (a2 ++ c2) w' fun e w' => ∃ n : Int, e = .returned (.int .i64 n) ∧ Q2 n w') :
    Calls Tryz.prog 168 #[.slice (some ⟨g, 0, none⟩) 2 2] w (FirstPost2 Q1 Q2) := by
  have x0 := hb.cell 0
  simp at x0
  have H1 := Lib.hid h1
  have HF1 := Lib.hid hf1
  have H2 := Lib.hid h2
  have HF2 := Lib.hid hf2
  have HG1 := Lib.hid hg1
  clear hb h1 hf1 h2 hf2 hg1
  go_enter Tryz.func168, Tryz.ntmps168
  go_wp2_with fail
  go_loopw [8] (fun i wr => (i = .int .i64 0 ∧ wr = w) ∨ (i = .int .i64 1 ∧ Q1 0 wr) ∨ (i = .int .i64 2 ∧ Q2 0 wr)) (fun i _ => 2 - (intOf i).toNat)
  case atStart => exact .inl ⟨rfl, rfl⟩
  case round =>
    rcases hrel with ⟨rfl, rfl⟩ | ⟨rfl, hq⟩ | ⟨rfl, hq⟩
    · have hcf := HF1.out
      go_wp2_with fail
      refine H1.out.mono ?_
      rintro e w1 ⟨n, rfl, hq⟩
      by_cases hn : n = 0
      · subst hn
        have HQ := Lib.hid hq
        clear hq
        go_wp2_with fail
        refine ⟨(.inr (.inl ⟨rfl, HQ.out⟩)), by simp [intOf]⟩
      · have hn1 : (n != 0) = true := by simp [hn]
        have hn2 : (n == 0) = false := by simp [hn]
        have HQ := Lib.hid hq
        clear hq
        go_wp2_with fail
        go_ret
        exact ⟨n, rfl, (.inl ⟨hn, HQ.out⟩)⟩
    · have x1 := (HG1.out _ _ hq).cell 1
      simp at x1
      have hcf := HF2.out
      have hcall := H2.out _ hq
      have HCALL := Lib.hid hcall
      clear hq hcall
      go_wp2_with fail
      refine HCALL.out.mono ?_
      rintro e w1 ⟨n, rfl, hq⟩
      by_cases hn : n = 0
      · subst hn
        have HQ := Lib.hid hq
        clear hq
        go_wp2_with fail
        refine ⟨(.inr (.inr ⟨rfl, HQ.out⟩)), by simp [intOf]⟩
      · have hn1 : (n != 0) = true := by simp [hn]
        have hn2 : (n == 0) = false := by simp [hn]
        have HQ := Lib.hid hq
        clear hq
        go_wp2_with fail
        go_ret
        exact ⟨n, rfl, (.inr HQ.out)⟩
    · have HQ := Lib.hid hq
      clear hq
      go_wp2_with fail
      go_ret
      exact ⟨0, rfl, (.inr HQ.out)⟩
/-- 3 calls, one behind the other: the first error ends them. -/
def FirstPost3 (Q1 Q2 Q3 : Int → World → Prop) (e : Ending) (w' : World) : Prop := ∃ n : Int, e = .returned (.int .i64 n) ∧ ((n ≠ 0 ∧ Q1 n w') ∨ (n ≠ 0 ∧ Q2 n w') ∨ Q3 n w')
set_option maxRecDepth 100000 in
set_option maxHeartbeats 2000000 in
theorem wal_first3 (g K1 K2 K3 : Nat) (a1 c1 a2 c2 a3 c3 : Array Value) (Q1 Q2 Q3 : Int → World → Prop) (w : World) (hb : Blk w g 53 #[.func (.func K1) a1 c1, .func (.func K2) a2 c2, .func (.func K3) a3 c3])
    (hf1 : ∀ (W : World), (callFunc K1 (a1 ++ c1)).run Tryz.prog W = .ok (.enter K1 (a1 ++ c1)) W)
    (hf2 : ∀ (W : World), (callFunc K2 (a2 ++ c2)).run Tryz.prog W = .ok (.enter K2 (a2 ++ c2)) W)
    (hf3 : ∀ (W : World), (callFunc K3 (a3 ++ c3)).run Tryz.prog W = .ok (.enter K3 (a3 ++ c3)) W)
    (h1 : Calls Tryz.prog K1 (a1 ++ c1) w fun e w' => ∃ n : Int, e = .returned (.int .i64 n) ∧ Q1 n w')
    (hg1 : ∀ n w', Q1 n w' → Blk w' g 53 #[.func (.func K1) a1 c1, .func (.func K2) a2 c2, .func (.func K3) a3 c3])
    (h2 : ∀ w', Q1 0 w' → Calls Tryz.prog K2 (a2 ++ c2) w' fun e w' => ∃ n : Int, e = .returned (.int .i64 n) ∧ Q2 n w')
    (hg2 : ∀ n w', Q2 n w' → Blk w' g 53 #[.func (.func K1) a1 c1, .func (.func K2) a2 c2, .func (.func K3) a3 c3])
    (h3 : ∀ w', Q2 0 w' → Calls Tryz.prog K3 (a3 ++ c3) w' fun e w' => ∃ n : Int, e = .returned (.int .i64 n) ∧ Q3 n w') :
    Calls Tryz.prog 168 #[.slice (some ⟨g, 0, none⟩) 3 3] w (FirstPost3 Q1 Q2 Q3) := by
  have x0 := hb.cell 0
  simp at x0
  have H1 := Lib.hid h1
  have HF1 := Lib.hid hf1
  have H2 := Lib.hid h2
  have HF2 := Lib.hid hf2
  have H3 := Lib.hid h3
  have HF3 := Lib.hid hf3
  have HG1 := Lib.hid hg1
  have HG2 := Lib.hid hg2
  clear hb h1 hf1 h2 hf2 h3 hf3 hg1 hg2
  go_enter Tryz.func168, Tryz.ntmps168
  go_wp2_with fail
  go_loopw [8] (fun i wr => (i = .int .i64 0 ∧ wr = w) ∨ (i = .int .i64 1 ∧ Q1 0 wr) ∨ (i = .int .i64 2 ∧ Q2 0 wr) ∨ (i = .int .i64 3 ∧ Q3 0 wr)) (fun i _ => 3 - (intOf i).toNat)
  case atStart => exact .inl ⟨rfl, rfl⟩
  case round =>
    rcases hrel with ⟨rfl, rfl⟩ | ⟨rfl, hq⟩ | ⟨rfl, hq⟩ | ⟨rfl, hq⟩
    · have hcf := HF1.out
      go_wp2_with fail
      refine H1.out.mono ?_
      rintro e w1 ⟨n, rfl, hq⟩
      by_cases hn : n = 0
      · subst hn
        have HQ := Lib.hid hq
        clear hq
        go_wp2_with fail
        refine ⟨(.inr (.inl ⟨rfl, HQ.out⟩)), by simp [intOf]⟩
      · have hn1 : (n != 0) = true := by simp [hn]
        have hn2 : (n == 0) = false := by simp [hn]
        have HQ := Lib.hid hq
        clear hq
        go_wp2_with fail
        go_ret
        exact ⟨n, rfl, (.inl ⟨hn, HQ.out⟩)⟩
    · have x1 := (HG1.out _ _ hq).cell 1
      simp at x1
      have hcf := HF2.out
      have hcall := H2.out _ hq
      have HCALL := Lib.hid hcall
      clear hq hcall
      go_wp2_with fail
      refine HCALL.out.mono ?_
      rintro e w1 ⟨n, rfl, hq⟩
      by_cases hn : n = 0
      · subst hn
        have HQ := Lib.hid hq
        clear hq
        go_wp2_with fail
        refine ⟨(.inr (.inr (.inl ⟨rfl, HQ.out⟩))), by simp [intOf]⟩
      · have hn1 : (n != 0) = true := by simp [hn]
        have hn2 : (n == 0) = false := by simp [hn]
        have HQ := Lib.hid hq
        clear hq
        go_wp2_with fail
        go_ret
        exact ⟨n, rfl, (.inr (.inl ⟨hn, HQ.out⟩))⟩
    · have x2 := (HG2.out _ _ hq).cell 2
      simp at x2
      have hcf := HF3.out
      have hcall := H3.out _ hq
      have HCALL := Lib.hid hcall
      clear hq hcall
      go_wp2_with fail
      refine HCALL.out.mono ?_
      rintro e w1 ⟨n, rfl, hq⟩
      by_cases hn : n = 0
      · subst hn
        have HQ := Lib.hid hq
        clear hq
        go_wp2_with fail
        refine ⟨(.inr (.inr (.inr ⟨rfl, HQ.out⟩))), by simp [intOf]⟩
      · have hn1 : (n != 0) = true := by simp [hn]
        have hn2 : (n == 0) = false := by simp [hn]
        have HQ := Lib.hid hq
        clear hq
        go_wp2_with fail
        go_ret
        exact ⟨n, rfl, (.inr (.inr HQ.out))⟩
    · have HQ := Lib.hid hq
      clear hq
      go_wp2_with fail
      go_ret
      exact ⟨0, rfl, (.inr (.inr HQ.out))⟩
end Go.Proofs.YtljabmkmngbhkaaGreatDoor
