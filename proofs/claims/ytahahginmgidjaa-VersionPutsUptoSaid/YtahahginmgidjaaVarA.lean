/-
  The program's numbers as bytes: Get.
-/
import Derived.Test.YtahahginmgidjaaVarM
import Derived.Test.YtahahginmgidjaaBase
import Derived.Deep.QuietTactic
import Derived.BigQuiet
import Derived.Laws.Strings
import Derived.Deep.DeepCutAuto
import Derived.Outline
import Derived.Test.YtahahginmgidjaaOwn
namespace Go.Proofs.Ytahahginmgidjaa
open Go.RowKit
set_option linter.unusedVariables false
set_option linter.unusedSimpArgs false

def GetAt (s : List UInt8) (k : Nat) (e : Ending) : Prop := match getV s k with
  | .inl (n, j) => e = .returned (.tuple #[.int .i64 n, .int .i64 (j : Int), .int .i64 0])
  | .inr c => e = .returned (.tuple #[.int .i64 0, .int .i64 0, .int .i64 c])
theorem run_sat (s : ByteArray) (i : Nat) (x : UInt8) (h : s.data.toList[i]? = some x) (w : World) : (Instr.index 9 (.string s) (.int .i64 (i : Int))).run Try.prog w = .ok (.int .u8 (x.toNat : Int)) w := by
  have hi : i < s.size := by
    obtain ⟨h1, _⟩ := List.getElem?_eq_some_iff.1 h
    rw [Array.length_toList] at h1
    exact h1
  have hx : s[i] = x := by
    obtain ⟨h1, h2⟩ := List.getElem?_eq_some_iff.1 h
    rw [← h2, Array.getElem_toList]
    rfl
  rw [run_index_string w _ _ _ _ Try.underlying9, dif_pos ⟨by omega, by omega⟩]
  simp [hx]
theorem get_end {s : List UInt8} {k i acc : Nat} (h : getGo 0 0 (s.drop k) = getGo i acc (s.drop (k + i))) (hs : k + i = s.length) : getV s k = .inr 3 := by
  unfold getV
  rw [h, List.drop_eq_nil_of_le (by omega), getGo_nil]
theorem get_step {s : List UInt8} {k i acc : Nat} {b : UInt8} (h : getGo 0 0 (s.drop k) = getGo i acc (s.drop (k + i))) (hb : s[k + i]? = some b) : getGo 0 0 (s.drop k) = if (i = 9 ∧ 1 < b.toNat) ∨ (0 < i ∧ b.toNat = 0) then .inr 4 else if b.toNat < 128 then .inl (acc + b.toNat * 128 ^ i, i + 1) else getGo (i + 1) (acc + b.toNat % 128 * 128 ^ i) (s.drop (k + (i + 1))) := by
  obtain ⟨h1, h2⟩ := List.getElem?_eq_some_iff.1 hb
  rw [h, List.drop_eq_getElem_cons h1, h2, getGo_cons]
  rfl
theorem get_bad {s : List UInt8} {k : Nat} (h : getGo 0 0 (s.drop k) = .inr 4) : getV s k = .inr 4 := by
  unfold getV
  rw [h]
set_option maxRecDepth 100000 in
set_option maxHeartbeats 4000000 in
theorem va_get (s : ByteArray) (k : Nat) (hk : k ≤ s.size) (hs : s.size ≤ 281474976710656) (w : World) : Calls Try.prog 27 #[.string s, .int .i64 (k : Int)] w fun e w' => GetAt s.data.toList k e ∧ w = w' := by
  have e4 : s.data.toList.length = s.size := by rw [Array.length_toList]; rfl
  have HE4 := Lib.hid e4
  clear e4
  go_enter Try.func27, Try.ntmps27
  go_wp2_with fail
  go_loopw [7, 18] (fun u v wr => ∃ i acc : Nat, i ≤ 9 ∧ v = .int .i64 (i : Int) ∧ u = .int .u64 (acc : Int) ∧ acc < 128 ^ i ∧ k + i ≤ s.size ∧ getGo 0 0 (s.data.toList.drop k) = getGo i acc (s.data.toList.drop (k + i)) ∧ w = wr) (fun _ v _ => 10 - (intOf v).toNat)
  case atStart => exact ⟨0, 0, by omega, rfl, rfl, by decide, by omega, rfl, rfl⟩
  case round =>
    obtain ⟨i, acc, hi, rfl, rfl, hacc, hki, hgo, rfl⟩ := hrel
    have hlt : (i : Int) < 10 := by omega
    have HGO := Lib.hid hgo
    have HACC := Lib.hid hacc
    clear hgo hacc
    by_cases hend : k + i = s.size
    · have hq : ((k : Int) + i == (s.size : Int)) = true := by rw [beq_iff_eq]; omega
      have hv : getV s.data.toList k = .inr 3 := get_end HGO.out (by rw [HE4.out]; exact hend)
      have HV := Lib.hid hv
      clear hv hend
      go_wp2_with fail
      go_ret3
      exact ⟨by unfold GetAt; rw [HV.out]; rfl, by first | rfl | trivial⟩
    · have hq : ((k : Int) + i == (s.size : Int)) = false := by rw [beq_eq_false_iff_ne]; omega
      have hkl : k + i < s.data.toList.length := by rw [HE4.out]; omega
      obtain ⟨b, hb⟩ : ∃ b, s.data.toList[k + i]? = some b := ⟨_, List.getElem?_eq_getElem hkl⟩
      have hix := run_sat s (k + i) b hb
      rw [Int.natCast_add] at hix
      have hst := get_step HGO.out hb
      have hbn : b.toNat < 256 := b.toNat_lt
      have HST := Lib.hid hst
      have HKI1 := Lib.hid (show k + i < s.size by omega)
      clear hb hst hkl hend
      by_cases hbad : (i = 9 ∧ 1 < b.toNat) ∨ (0 < i ∧ b.toNat = 0)
      · have hv : getV s.data.toList k = .inr 4 := get_bad (by rw [HST.out, if_pos hbad])
        have HV := Lib.hid hv
        clear hv
        by_cases h1 : i = 9 ∧ 1 < b.toNat
        · have q1 : ((i : Int) == 9) = true := by rw [beq_iff_eq]; omega
          have q2 : decide ((b.toNat : Int) > 1) = true := by simp <;> omega
          clear h1 hbad
          go_wp2_with fail
          go_ret3
          exact ⟨by unfold GetAt; rw [HV.out]; rfl, by first | rfl | trivial⟩
        · have h2 : 0 < i ∧ b.toNat = 0 := by
            rcases hbad with h | h
            · exact absurd h h1
            · exact h
          have q3 : decide (0 < i) = true := by simp <;> omega
          have q3' : 0 < i := h2.1
          have q4' : b.toNat = 0 := h2.2
          have q4 : ((b.toNat : Int) == 0) = true := by rw [beq_iff_eq]; omega
          by_cases h9 : i = 9
          · have q1 : ((i : Int) == 9) = true := by rw [beq_iff_eq]; omega
            have q2 : decide ((b.toNat : Int) > 1) = false := by simp <;> omega
            clear h1 h2 h9 hbad
            go_wp2_with fail
            go_ret3
            exact ⟨by unfold GetAt; rw [HV.out]; rfl, by first | rfl | trivial⟩
          · have q1 : ((i : Int) == 9) = false := by rw [beq_eq_false_iff_ne]; omega
            clear h1 h2 h9 hbad
            go_wp2_with fail
            go_ret3
            exact ⟨by unfold GetAt; rw [HV.out]; rfl, by first | rfl | trivial⟩
      · have hno1 : i = 9 → b.toNat ≤ 1 := fun h => by
          rcases Nat.lt_or_ge 1 b.toNat with h1 | h1
          · exact absurd (.inl ⟨h, h1⟩) hbad
          · exact h1
        have hno2 : 0 < i → b.toNat ≠ 0 := fun h h1 => hbad (.inr ⟨h, h1⟩)
        have hst := HST.out
        rw [if_neg hbad] at hst
        have hmask : bits .and .u8 (b.toNat : Int) 127 = ((b.toNat % 128 : Nat) : Int) := by
          have h := bits_mask .u8 8 (by decide) wraps_u8 7 (by decide) (b.toNat : Int) (by omega) (by omega)
          have e : (2 : Int) ^ 7 - 1 = 127 := by decide
          rw [e] at h
          rw [h]
          have e : (2 : Int) ^ 7 = 128 := by decide
          rw [e]
          omega
        obtain ⟨o1, o2, o3⟩ := or_step (m := b.toNat % 128) HACC.out hi (by omega) (fun h => by have := hno1 h; omega)
        have hacc2 := acc_step (m := b.toNat % 128) HACC.out (by omega)
        have e7 : ((b.toNat % 128 : Nat) : Int) * 2 ^ (7 * i) = ((b.toNat % 128 * 128 ^ i : Nat) : Int) := by
          have e : (128 : Nat) ^ i = 2 ^ (7 * i) := by rw [Nat.pow_mul]
          rw [e]
          simp
        have hw1 : IntKind.u64.wrap ((b.toNat % 128 : Nat) : Int) = ((b.toNat % 128 : Nat) : Int) := by rw [IntKind.wrap_u64]; omega
        have hw2 : IntKind.u64.wrap ((b.toNat % 128 * 128 ^ i : Nat) : Int) = ((b.toNat % 128 * 128 ^ i : Nat) : Int) := by rw [IntKind.wrap_u64]; omega
        have hor : bits .or .u64 (acc : Int) (IntKind.u64.wrap (IntKind.u64.wrap (bits .and .u8 (b.toNat : Int) 127) * 2 ^ (7 * i))) = ((acc + b.toNat % 128 * 128 ^ i : Nat) : Int) := by
          rw [hmask, hw1, e7, hw2, o2]
        obtain ⟨u, hu⟩ : ∃ u, acc + b.toNat % 128 * 128 ^ i = u := ⟨_, rfl⟩
        rw [hu] at hor hacc2 o3 hst
        have HST2 := Lib.hid hst
        have HU := Lib.hid hu
        have HACC2 := Lib.hid hacc2
        clear hst hu hacc2 e7 hw1 hw2 o1 o2 hmask hbad
        have f1 : ∀ z, decide (i = 9) = true → decide ((b.toNat : Int) > 1) = z → z = false := fun z h1 h2 => by
          subst h2
          have := hno1 (of_decide_eq_true h1)
          simp
          omega
        have hval : bits .xor .i64 ((u : Int) / 2) (wrap64 (-wrap64 (bits .and .u64 (u : Int) 1))) = unzz u := by
          rw [Lib.u64_and1 _ (by omega) (by omega)]
          have e1 : ((u : Int) / 2) = ((u / 2 : Nat) : Int) := by omega
          have e2 : wrap64 ((u : Int) % 2) = ((u % 2 : Nat) : Int) := by rw [IntWalk.wrap64_in _ (by omega)]; omega
          have e3 : wrap64 (-((u % 2 : Nat) : Int)) = -((u % 2 : Nat) : Int) := IntWalk.wrap64_in _ (by omega)
          rw [e1, e2, e3]
          exact unzz_bits u o3
        have HOR := Lib.hid hor
        have HVAL := Lib.hid hval
        clear f1 hor hval
        have q1 : ((i : Int) == 9) = decide (i = 9) := by
          by_cases h : i = 9
          · subst h; rfl
          · rw [decide_eq_false h, beq_eq_false_iff_ne]; omega
        have q4 : ((b.toNat : Int) == 0) = decide (b.toNat = 0) := by
          by_cases h : b.toNat = 0
          · rw [h]; rfl
          · rw [decide_eq_false h, beq_eq_false_iff_ne]; omega
        have q2 : decide ((b.toNat : Int) > 1) = decide (1 < b.toNat) := by
          by_cases h : 1 < b.toNat
          · rw [decide_eq_true h]; simp; omega
          · rw [decide_eq_false h]; simp; omega
        by_cases h128 : b.toNat < 128
        · have hend : getV s.data.toList k = .inl (unzz u, k + (i + 1)) := by
            unfold getV
            rw [HST2.out, if_pos h128]
            have e : b.toNat % 128 = b.toNat := by omega
            have := HU.out
            rw [e] at this
            rw [this]
          have HEND := Lib.hid hend
          have q5 : decide ((b.toNat : Int) < 128) = true := by simp <;> omega
          clear hend
          by_cases h9 : i = 9
          · rw [decide_eq_true h9] at q1
            have hb1 := hno1 h9
            have hb0 : ¬ b.toNat = 0 := hno2 (by omega)
            have hi0 : 0 < i := by omega
            have hb1' : ¬ 1 < b.toNat := by omega
            rw [decide_eq_false hb1'] at q2
            rw [decide_eq_false hb0] at q4
            clear hno1 hno2 h9 hb1 hb0 hb1' h128
            go_upto_region 12 with fail
            have hor := HOR.out
            go_upto_region 14 with fail
            have hval := HVAL.out
            clear hor
            go_wp2_with fail
            go_ret3
            exact ⟨by unfold GetAt; rw [HEND.out]; simp only; rw [show ((k + (i + 1) : Nat) : Int) = (k : Int) + i + 1 by omega]; rfl, by first | rfl | trivial⟩
          · rw [decide_eq_false h9] at q1
            by_cases hi0 : i = 0
            · have q3 : decide (0 < i) = false := by rw [hi0]; rfl
              have q3' : ¬ 0 < i := by omega
              clear hno1 hno2 h9 hi0 h128 q2 q4
              go_upto_region 12 with fail
              have hor := HOR.out
              go_upto_region 14 with fail
              have hval := HVAL.out
              clear hor
              go_wp2_with fail
              go_ret3
              exact ⟨by unfold GetAt; rw [HEND.out]; simp only; rw [show ((k + (i + 1) : Nat) : Int) = (k : Int) + i + 1 by omega]; rfl, by first | rfl | trivial⟩
            · have q3' : 0 < i := by omega
              have hb0 : ¬ b.toNat = 0 := hno2 (by omega)
              rw [decide_eq_false hb0] at q4
              clear hno1 hno2 h9 hi0 h128 q2 hb0
              go_upto_region 12 with fail
              have hor := HOR.out
              go_upto_region 14 with fail
              have hval := HVAL.out
              clear hor
              go_wp2_with fail
              go_ret3
              exact ⟨by unfold GetAt; rw [HEND.out]; simp only; rw [show ((k + (i + 1) : Nat) : Int) = (k : Int) + i + 1 by omega]; rfl, by first | rfl | trivial⟩
        · have h9 : ¬ i = 9 := fun h => by
            have := hno1 h
            omega
          have q5 : decide ((b.toNat : Int) < 128) = false := by simp <;> omega
          have hgo2 : getGo 0 0 (s.data.toList.drop k) = getGo (i + 1) u (s.data.toList.drop (k + (i + 1))) := by rw [HST2.out, if_neg h128]
          have HGO2 := Lib.hid hgo2
          clear hgo2
          rw [decide_eq_false h9] at q1
          by_cases hi0 : i = 0
          · have q3 : decide (0 < i) = false := by rw [hi0]; rfl
            have q3' : ¬ 0 < i := by omega
            have hki1 : k + (i + 1) ≤ s.size := by
              have := HKI1.out; omega
            clear hno1 hno2 hi0 h128 q2 q4
            go_upto_region 12 with fail
            have hor := HOR.out
            go_wp2_with fail
            exact ⟨⟨i + 1, u, by omega, by simp, by first | rfl | simp, HACC2.out, hki1, HGO2.out, by first | rfl | trivial⟩, by simp [intOf]; omega⟩
          · have q3' : 0 < i := by omega
            have hb0 : ¬ b.toNat = 0 := hno2 (by omega)
            have hki1 : k + (i + 1) ≤ s.size := by
              have := HKI1.out; omega
            rw [decide_eq_false hb0] at q4
            clear hno1 hno2 hi0 h128 q2 hb0
            go_upto_region 12 with fail
            have hor := HOR.out
            go_wp2_with fail
            exact ⟨⟨i + 1, u, by omega, by simp, by first | rfl | simp, HACC2.out, hki1, HGO2.out, by first | rfl | trivial⟩, by simp [intOf]; omega⟩
end Go.Proofs.Ytahahginmgidjaa
