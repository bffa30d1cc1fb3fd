/-
  The program's frame: Sum.
-/
import Derived.Test.YtjfbcjmnjlehaaaGreatDoorBase
import Derived.Test.YtjfbcjmnjlehaaaGreatDoorFraM
import Derived.Test.YtjfbcjmnjlehaaaGreatDoorProg
import Derived.IntWalk
import Derived.Laws.BitsAllLaws
namespace Go.Proofs.YtjfbcjmnjlehaaaGreatDoor
open Go.RowKit
set_option linter.unusedVariables false
set_option linter.unusedSimpArgs false

theorem step_bits (d : Nat) (h : d < 4294967296) : bits .xor .u32 ((d : Int) / 2) ((d : Int) % 2 * 3988292384) = ((crcStep d : Nat) : Int) := by
  have e1 : (d : Int) / 2 = ((d / 2 : Nat) : Int) := by omega
  have e2 : (d : Int) % 2 * 3988292384 = ((if d % 2 = 1 then 3988292384 else 0 : Nat) : Int) := by
    split <;> omega
  rw [e1, e2]
  exact u32_xor_nat _ _ (by omega) (by split <;> omega)
theorem not_bits (d : Nat) (h : d < 4294967296) : bits .xor .u32 IntKind.u32.max (d : Int) = ((4294967295 - d : Nat) : Int) := by
  have := u32_xor_nat 4294967295 d (by omega) h
  rw [Nat.xor_comm, show (((4294967295 : Nat) : Int)) = IntKind.u32.max from rfl] at this
  rw [this]
  congr 1
  apply Nat.eq_of_testBit_eq
  intro i
  rw [Nat.testBit_xor]
  have h1 : (4294967295 : Nat) = 2 ^ 32 - 1 := by decide
  rw [h1, Nat.testBit_two_pow_sub_one, show 2 ^ 32 - 1 - d = 2 ^ 32 - (d + 1) by omega, Nat.testBit_two_pow_sub_succ (by omega)]
  by_cases hi : i < 32
  · simp [hi]
  · simp [hi]
    exact Nat.testBit_lt_two_pow (Nat.lt_of_lt_of_le h (show 4294967296 ≤ 2 ^ i from (show (4294967296 : Nat) = 2 ^ 32 by decide) ▸ Nat.pow_le_pow_right (by omega) (by omega)))
set_option maxRecDepth 100000 in
set_option maxHeartbeats 2000000 in
theorem fra_sum (s : ByteArray) (w : World) (hs : s.size ≤ 1000000000) : Calls Tryz.prog 100 #[.string s] w fun e w' => e = .returned (.int .u32 (crcSum s.data.toList)) ∧ w = w' := by
  go_enter Tryz.func100, Tryz.ntmps100
  go_wp2_with fail
  go_loop [3, 7] (fun c i => ∃ k : Nat, k ≤ s.size ∧ i = .int .i64 k ∧ c = .int .u32 (crcF 4294967295 (s.data.toList.take k) : Nat)) (fun _ i => s.size - (intOf i).toNat)
  case atStart => exact ⟨0, Nat.zero_le _, rfl, rfl⟩
  case round =>
    obtain ⟨k, hk, rfl, rfl⟩ := hrel
    obtain ⟨c, hc⟩ : ∃ c, crcF 4294967295 (s.data.toList.take k) = c := ⟨_, rfl⟩
    have hcl : c < 4294967296 := by rw [← hc]; exact crcF_lt (by omega) _
    rw [hc]
    by_cases hlt : k < s.size
    · have HC := Lib.hid hc
      clear hc
      have hb := s[k].toNat_lt
      have hx : bits .xor .u32 (c : Int) (s[k].toNat : Int) = ((c ^^^ s[k].toNat : Nat) : Int) := u32_xor_nat _ _ hcl (by omega)
      have hd0 := xor_byte_lt hcl s[k]
      obtain ⟨d0, hd⟩ : ∃ d, c ^^^ s[k].toNat = d := ⟨_, rfl⟩
      rw [hd] at hx hd0
      have HD := Lib.hid hd
      clear hd
      go_wp2_with fail
      go_loop [3, 16] (fun e j => ∃ m : Nat, m ≤ 8 ∧ j = .int .i64 m ∧ e = .int .u32 (crcN m d0 : Nat)) (fun _ j => 8 - (intOf j).toNat)
      case atStart => exact ⟨0, Nat.zero_le _, rfl, rfl⟩
      case round =>
        obtain ⟨m, hm, rfl, rfl⟩ := hrel
        have hml := crcN_lt hd0 m
        have hms := crcN_succ m d0
        obtain ⟨d, he⟩ : ∃ d, crcN m d0 = d := ⟨_, rfl⟩
        rw [he] at hml hms ⊢
        by_cases hlt8 : m < 8
        · have HE := Lib.hid hms
          clear he hms hx
          have ha : bits .and .u32 (d : Int) 1 = ((d % 2 : Nat) : Int) := by
            have := u32_and_nat d 1 hml (by omega)
            rw [Nat.and_one_is_mod] at this
            exact this
          have hst := step_bits d hml
          rw [← HE.out] at hst
          go_wp2_with fail
          refine ⟨⟨m + 1, by omega, by go_num, rfl⟩, by simp [intOf]; omega⟩
        · obtain rfl : m = 8 := by omega
          have hk1 : crcF 4294967295 (s.data.toList.take (k + 1)) = d := by
            have hlt' : k < s.data.toList.length := by simpa using hlt
            rw [List.take_succ_eq_append_getElem hlt', crcF_snoc, HC.out, ← he, ← HD.out]
            rfl
          have HK := Lib.hid hk1
          clear hk1 he hms hx
          go_wp2_with fail
          go_round
          case rel => exact ⟨k + 1, by omega, by go_num, by rw [HK.out]⟩
          case measure => simp [intOf]; omega
    · obtain rfl : k = s.size := by omega
      have hn := not_bits c hcl
      have he : crcSum s.data.toList = 4294967295 - c := by
        unfold crcSum
        rw [← hc, List.take_of_length_le (by simp)]
      have HE := Lib.hid he
      clear hc he
      go_wp2_with fail
      go_ret
      exact ⟨by rw [HE.out]; rfl, rfl⟩
end Go.Proofs.YtjfbcjmnjlehaaaGreatDoor
