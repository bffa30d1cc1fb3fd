/-
  The document's number at a place.
-/
import Derived.Test.YtahahginmgidjaaVarE
namespace Go.Proofs.Ytahahginmgidjaa
open Go.RowKit
set_option linter.unusedVariables false
set_option linter.unusedSimpArgs false

theorem accV_drop (l : List UInt8) (j : Nat) : accV (l.drop j) ≤ accV l := by
  induction l generalizing j with
  | nil => simp
  | cons b r ih =>
    cases j with
    | zero => exact Nat.le_refl _
    | succ j =>
      rw [List.drop_succ_cons, accV_cons]
      have := ih j
      omega
theorem accV_in {s : List UInt8} {k m : Nat} {b : UInt8} (hm : m ≤ 9) (hb : s[k + m]? = some b) (hb1 : b.toNat < 128) (hbad : ¬ ((m = 9 ∧ 1 < b.toNat) ∨ (0 < m ∧ b.toNat = 0))) : accV ((s.drop k).take (m + 1)) < 18446744073709551616 := by
  have hk := (List.getElem?_eq_some_iff.1 hb).1
  have hx : (s.drop k)[m]? = some b := by rw [List.getElem?_drop]; exact hb
  have hlen : ((s.drop k).take m).length = m := by rw [List.length_take, List.length_drop]; omega
  have et : (s.drop k).take (m + 1) = (s.drop k).take m ++ [b] := by rw [List.take_add_one, hx]; rfl
  rw [et, accV_add, hlen]
  have h9 : m = 9 → b.toNat ≤ 1 := fun e => by
    rcases Nat.lt_or_ge 1 b.toNat with h1 | h1
    · exact absurd (.inl ⟨e, h1⟩) hbad
    · exact h1
  have hl := accV_lt ((s.drop k).take m)
  rw [hlen] at hl
  exact (or_step hl hm (by omega) (fun e => by have := h9 e; omega)).2.2
set_option maxRecDepth 100000 in
set_option maxHeartbeats 8000000 in
theorem r1_get (s : ByteArray) (k : Nat) (hk : k ≤ s.size) (hs : s.size ≤ 281474976710656) (w : World) : Calls Try.prog 29 #[.string s, .int .i64 (k : Int)] w fun e w' => GetAt s.data.toList k e ∧ w = w' := by
  have e4 : s.data.toList.length = s.size := bs_len s
  have HE4 := Lib.hid e4
  clear e4
  go_enter Try.func29, Try.ntmps29
  go_wp2_with fail
  go_loopw [7, 8] (fun l v wr => ∃ m : Nat, m ≤ 10 ∧ v = .int .i64 (m : Int) ∧ l = .int .i64 (-1) ∧ k + m ≤ s.size ∧ (∀ b ∈ (s.data.toList.drop k).take m, 128 ≤ b.toNat) ∧ w = wr) (fun _ v _ => 10 - (intOf v).toNat)
  case atStart => exact ⟨0, by omega, rfl, rfl, by omega, by simp, rfl⟩
  case round =>
    obtain ⟨m, hm, rfl, rfl, hkm, hall, rfl⟩ := hrel
    by_cases hend : m = 10 ∨ k + m = s.size
    · have hv : ∃ c : Int, getV s.data.toList k = .inr c ∧ c = if (s.size : Int) - k < 10 then 3 else 4 := by
        rcases Nat.lt_or_ge m 10 with h | h
        · have hkm2 : k + m = s.size := by omega
          exact ⟨3, get_none hall (by omega) (by rw [HE4.out]; exact hkm2), by rw [if_pos (by omega)]⟩
        · obtain rfl : m = 10 := by omega
          exact ⟨4, get_ten hall (by rw [HE4.out]; exact hkm), by rw [if_neg (by omega)]⟩
      obtain ⟨c, hv, hc⟩ := hv
      have HV := Lib.hid hv
      clear hv hall
      by_cases h10 : m = 10
      · have hlt : ¬ (m : Int) < 10 := by omega
        have hd : decide ((s.size : Int) - k < 10) = false := by simp; omega
        rw [if_neg (by omega)] at hc
        subst hc
        clear hend h10
        go_wp2_with fail
        go_ret3
        exact ⟨by unfold GetAt; rw [HV.out]; rfl, by first | rfl | trivial⟩
      · have hlt : (m : Int) < 10 := by omega
        have hlt2 : ¬ (k : Int) + m < s.size := by omega
        have hd : decide ((s.size : Int) - k < 10) = true := by simp; omega
        rw [if_pos (by omega)] at hc
        subst hc
        clear hend h10
        go_wp2_with fail
        go_ret3
        exact ⟨by unfold GetAt; rw [HV.out]; rfl, by first | rfl | trivial⟩
    · have hlt : (m : Int) < 10 := by omega
      have hlt2 : (k : Int) + m < s.size := by omega
      have hkl : k + m < s.data.toList.length := by rw [HE4.out]; omega
      obtain ⟨b, hb⟩ : ∃ b, s.data.toList[k + m]? = some b := ⟨_, List.getElem?_eq_getElem hkl⟩
      have hix := run_sat s (k + m) b hb w
      rw [Int.natCast_add] at hix
      have hb8 : b.toNat < 256 := b.toNat_lt
      by_cases h128 : b.toNat < 128
      · have hd5 : decide ((b.toNat : Int) < 128) = true := by simp <;> omega
        have hv := get_last hall (by omega) hb h128
        by_cases hbad : (m = 9 ∧ 1 < b.toNat) ∨ (0 < m ∧ b.toNat = 0)
        · rw [if_pos hbad] at hv
          have HV := Lib.hid hv
          clear hv hall
          by_cases h2 : 0 < m ∧ b.toNat = 0
          · have q3 : 0 < m := h2.1
            have q4 : ((b.toNat : Int) == 0) = true := by rw [beq_iff_eq]; omega
            clear hbad h2 hb hend h128 hkl
            go_wp2_with fail
            go_ret3
            exact ⟨by unfold GetAt; rw [HV.out]; rfl, by first | rfl | trivial⟩
          · obtain ⟨h9, h1⟩ : m = 9 ∧ 1 < b.toNat := by
              rcases hbad with h | h
              · exact h
              · exact absurd h h2
            have q4 : ((b.toNat : Int) == 0) = false := by rw [beq_eq_false_iff_ne]; omega
            have q2 : decide ((b.toNat : Int) > 1) = true := by simp <;> omega
            have q0 : 0 < m := by omega
            have q1 : ((m : Int) == 9) = true := by rw [beq_iff_eq]; omega
            have hix9 : (Instr.index 9 (.string s) (.int .i64 ((k : Int) + 9))).run Try.prog w = .ok (.int .u8 (b.toNat : Int)) w := by rw [← hix, h9]; rfl
            clear hbad h2 hb hend h128 hkl h1 h9
            go_wp2_with fail
            go_ret3
            exact ⟨by unfold GetAt; rw [HV.out]; rfl, by first | rfl | trivial⟩
        · rw [if_neg hbad] at hv
          have hTlt := accV_in (by omega) hb h128 hbad
          obtain ⟨T, hT⟩ : ∃ T, (s.data.toList.drop k).take (m + 1) = T := ⟨_, rfl⟩
          have hTlen : T.length = m + 1 := by rw [← hT, List.length_take, List.length_drop]; omega
          have hTat : ∀ j, j < m + 1 → s.data.toList[k + j]? = T[j]? := fun j hj => by rw [← hT, List.getElem?_take_of_lt hj, List.getElem?_drop]
          rw [hT] at hv hTlt
          have HGOOD := Lib.hid hv
          have HTLEN := Lib.hid hTlen
          have HTAT := Lib.hid hTat
          have hz0 : 0 < m → b.toNat ≠ 0 := fun h h1 => hbad (.inr ⟨h, h1⟩)
          have hz1 : m = 9 → ¬ 1 < b.toNat := fun h h1 => hbad (.inl ⟨h, h1⟩)
          clear hv hT hTlen hTat hall hbad hb hend h128 hkl
          by_cases h9 : m = 9
          · have q0 : 0 < m := by omega
            have q1 : ((m : Int) == 9) = true := by rw [beq_iff_eq]; omega
            have hb0 := hz0 q0
            have q4 : ((b.toNat : Int) == 0) = false := by rw [beq_eq_false_iff_ne]; omega
            have hb1 := hz1 h9
            have q2 : decide ((b.toNat : Int) > 1) = false := by simp <;> omega
            have hix9 : (Instr.index 9 (.string s) (.int .i64 ((k : Int) + 9))).run Try.prog w = .ok (.int .u8 (b.toNat : Int)) w := by rw [← hix, h9]; rfl
            clear hz0 hz1 h9 hb0 hb1
            go_wp2_with fail
            go_loopw [9, 10] (fun u v wr => ∃ j : Nat, j ≤ m + 1 ∧ v = .int .i64 ((j : Int) - 1) ∧ u = .int .u64 ((accV (T.drop j) : Nat) : Int) ∧ w = wr) (fun _ v _ => ((intOf v) + 1).toNat)
            case atStart => exact ⟨m + 1, by omega, by first | rfl | (simp; done) | (simp; omega), by rw [List.drop_eq_nil_of_le (by rw [HTLEN.out]; exact Nat.le_refl _)]; rfl, rfl⟩
            case round =>
              obtain ⟨j, hj, rfl, rfl, rfl⟩ := hrel
              cases j with
              | zero =>
                have hge : decide (((0 : Nat) : Int) - 1 ≥ 0) = false := by decide
                have hT0 : T.drop 0 = T := List.drop_zero
                rw [hT0]
                obtain ⟨U, hU⟩ : ∃ U, accV T = U := ⟨_, rfl⟩
                rw [hU] at hTlt ⊢
                have hgood : getV s.data.toList k = .inl (unzz U, k + (m + 1)) := by rw [HGOOD.out, hU]
                have HG := Lib.hid hgood
                clear hgood hU hT0
                rcases Nat.mod_two_eq_zero_or_one U with hm2 | hm2
                · have hq : ((U : Int) % 2 == 1) = false := by rw [beq_eq_false_iff_ne]; omega
                  have hz : unzz U = (U : Int) / 2 := by unfold unzz; rw [if_pos hm2]; omega
                  have HZ := Lib.hid hz
                  clear hz hm2
                  go_wp2_with fail
                  go_ret3
                  exact ⟨by unfold GetAt; rw [HG.out, HZ.out]; simp only; rw [show ((k + (m + 1) : Nat) : Int) = (k : Int) + m + 1 by omega]; rfl, by first | rfl | trivial⟩
                · have hq : ((U : Int) % 2 == 1) = true := by rw [beq_iff_eq]; omega
                  have hz : unzz U = -((U : Int) / 2) - 1 := by unfold unzz; rw [if_neg (by omega)]; omega
                  have HZ := Lib.hid hz
                  clear hz hm2
                  go_wp2_with fail
                  go_ret3
                  exact ⟨by unfold GetAt; rw [HG.out, HZ.out]; simp only; rw [show ((k + (m + 1) : Nat) : Int) = (k : Int) + m + 1 by omega]; rfl, by first | rfl | trivial⟩
              | succ j =>
                have hjT : j < T.length := by rw [HTLEN.out]; omega
                obtain ⟨c, hc⟩ : ∃ c, T[j]? = some c := ⟨_, List.getElem?_eq_getElem hjT⟩
                have hsc : s.data.toList[k + j]? = some c := by rw [HTAT.out j (by omega)]; exact hc
                have hix := run_sat s (k + j) c hsc w
                have hdr : T.drop j = c :: T.drop (j + 1) := by rw [List.drop_eq_getElem_cons hjT, (List.getElem?_eq_some_iff.1 hc).2]
                have hac : accV (T.drop j) = c.toNat % 128 + 128 * accV (T.drop (j + 1)) := by rw [hdr, accV_cons]
                have hle := accV_drop T j
                have ej : ((j + 1 : Nat) : Int) - 1 = (j : Int) := by omega
                have hkj : (k : Int) + j < s.size := by
                  have h1 := (List.getElem?_eq_some_iff.1 hsc).1
                  rw [HE4.out] at h1
                  omega
                rw [ej]
                rw [Int.natCast_add] at hix
                obtain ⟨X, hX⟩ : ∃ X, accV (T.drop (j + 1)) = X := ⟨_, rfl⟩
                rw [hX] at hac ⊢
                have hc8 : c.toNat < 256 := c.toNat_lt
                have hXl : (X : Int) * 128 + (c.toNat : Int) % 128 ≤ 18446744073709551615 := by omega
                have hX1 : (X : Int) * 128 ≤ 18446744073709551615 := by omega
                have hge : (0 : Int) ≤ (j : Int) := by omega
                have HAC := Lib.hid hac
                clear hc hsc hdr hac hle hX hjT
                go_wp2_with fail
                exact ⟨⟨j, by omega, rfl, by rw [HAC.out]; congr 1; omega, by first | rfl | trivial⟩, by simp [intOf]⟩
          · have q1 : ((m : Int) == 9) = false := by rw [beq_eq_false_iff_ne]; omega
            by_cases h0 : m = 0
            · have q0 : ¬ 0 < m := by omega
              clear hz0 hz1 h9 h0
              go_wp2_with fail
              go_loopw [9, 10] (fun u v wr => ∃ j : Nat, j ≤ m + 1 ∧ v = .int .i64 ((j : Int) - 1) ∧ u = .int .u64 ((accV (T.drop j) : Nat) : Int) ∧ w = wr) (fun _ v _ => ((intOf v) + 1).toNat)
              case atStart => exact ⟨m + 1, by omega, by first | rfl | (simp; done) | (simp; omega), by rw [List.drop_eq_nil_of_le (by rw [HTLEN.out]; exact Nat.le_refl _)]; rfl, rfl⟩
              case round =>
                obtain ⟨j, hj, rfl, rfl, rfl⟩ := hrel
                cases j with
                | zero =>
                  have hge : decide (((0 : Nat) : Int) - 1 ≥ 0) = false := by decide
                  have hT0 : T.drop 0 = T := List.drop_zero
                  rw [hT0]
                  obtain ⟨U, hU⟩ : ∃ U, accV T = U := ⟨_, rfl⟩
                  rw [hU] at hTlt ⊢
                  have hgood : getV s.data.toList k = .inl (unzz U, k + (m + 1)) := by rw [HGOOD.out, hU]
                  have HG := Lib.hid hgood
                  clear hgood hU hT0
                  rcases Nat.mod_two_eq_zero_or_one U with hm2 | hm2
                  · have hq : ((U : Int) % 2 == 1) = false := by rw [beq_eq_false_iff_ne]; omega
                    have hz : unzz U = (U : Int) / 2 := by unfold unzz; rw [if_pos hm2]; omega
                    have HZ := Lib.hid hz
                    clear hz hm2
                    go_wp2_with fail
                    go_ret3
                    exact ⟨by unfold GetAt; rw [HG.out, HZ.out]; simp only; rw [show ((k + (m + 1) : Nat) : Int) = (k : Int) + m + 1 by omega]; rfl, by first | rfl | trivial⟩
                  · have hq : ((U : Int) % 2 == 1) = true := by rw [beq_iff_eq]; omega
                    have hz : unzz U = -((U : Int) / 2) - 1 := by unfold unzz; rw [if_neg (by omega)]; omega
                    have HZ := Lib.hid hz
                    clear hz hm2
                    go_wp2_with fail
                    go_ret3
                    exact ⟨by unfold GetAt; rw [HG.out, HZ.out]; simp only; rw [show ((k + (m + 1) : Nat) : Int) = (k : Int) + m + 1 by omega]; rfl, by first | rfl | trivial⟩
                | succ j =>
                  have hjT : j < T.length := by rw [HTLEN.out]; omega
                  obtain ⟨c, hc⟩ : ∃ c, T[j]? = some c := ⟨_, List.getElem?_eq_getElem hjT⟩
                  have hsc : s.data.toList[k + j]? = some c := by rw [HTAT.out j (by omega)]; exact hc
                  have hix := run_sat s (k + j) c hsc w
                  have hdr : T.drop j = c :: T.drop (j + 1) := by rw [List.drop_eq_getElem_cons hjT, (List.getElem?_eq_some_iff.1 hc).2]
                  have hac : accV (T.drop j) = c.toNat % 128 + 128 * accV (T.drop (j + 1)) := by rw [hdr, accV_cons]
                  have hle := accV_drop T j
                  have ej : ((j + 1 : Nat) : Int) - 1 = (j : Int) := by omega
                  have hkj : (k : Int) + j < s.size := by
                    have h1 := (List.getElem?_eq_some_iff.1 hsc).1
                    rw [HE4.out] at h1
                    omega
                  rw [ej]
                  rw [Int.natCast_add] at hix
                  obtain ⟨X, hX⟩ : ∃ X, accV (T.drop (j + 1)) = X := ⟨_, rfl⟩
                  rw [hX] at hac ⊢
                  have hc8 : c.toNat < 256 := c.toNat_lt
                  have hXl : (X : Int) * 128 + (c.toNat : Int) % 128 ≤ 18446744073709551615 := by omega
                  have hX1 : (X : Int) * 128 ≤ 18446744073709551615 := by omega
                  have hge : (0 : Int) ≤ (j : Int) := by omega
                  have HAC := Lib.hid hac
                  clear hc hsc hdr hac hle hX hjT
                  go_wp2_with fail
                  exact ⟨⟨j, by omega, rfl, by rw [HAC.out]; congr 1; omega, by first | rfl | trivial⟩, by simp [intOf]⟩
            · have q0 : 0 < m := by omega
              have hb0 := hz0 q0
              have q4 : ((b.toNat : Int) == 0) = false := by rw [beq_eq_false_iff_ne]; omega
              clear hz0 hz1 h9 h0 hb0
              go_wp2_with fail
              go_loopw [9, 10] (fun u v wr => ∃ j : Nat, j ≤ m + 1 ∧ v = .int .i64 ((j : Int) - 1) ∧ u = .int .u64 ((accV (T.drop j) : Nat) : Int) ∧ w = wr) (fun _ v _ => ((intOf v) + 1).toNat)
              case atStart => exact ⟨m + 1, by omega, by first | rfl | (simp; done) | (simp; omega), by rw [List.drop_eq_nil_of_le (by rw [HTLEN.out]; exact Nat.le_refl _)]; rfl, rfl⟩
              case round =>
                obtain ⟨j, hj, rfl, rfl, rfl⟩ := hrel
                cases j with
                | zero =>
                  have hge : decide (((0 : Nat) : Int) - 1 ≥ 0) = false := by decide
                  have hT0 : T.drop 0 = T := List.drop_zero
                  rw [hT0]
                  obtain ⟨U, hU⟩ : ∃ U, accV T = U := ⟨_, rfl⟩
                  rw [hU] at hTlt ⊢
                  have hgood : getV s.data.toList k = .inl (unzz U, k + (m + 1)) := by rw [HGOOD.out, hU]
                  have HG := Lib.hid hgood
                  clear hgood hU hT0
                  rcases Nat.mod_two_eq_zero_or_one U with hm2 | hm2
                  · have hq : ((U : Int) % 2 == 1) = false := by rw [beq_eq_false_iff_ne]; omega
                    have hz : unzz U = (U : Int) / 2 := by unfold unzz; rw [if_pos hm2]; omega
                    have HZ := Lib.hid hz
                    clear hz hm2
                    go_wp2_with fail
                    go_ret3
                    exact ⟨by unfold GetAt; rw [HG.out, HZ.out]; simp only; rw [show ((k + (m + 1) : Nat) : Int) = (k : Int) + m + 1 by omega]; rfl, by first | rfl | trivial⟩
                  · have hq : ((U : Int) % 2 == 1) = true := by rw [beq_iff_eq]; omega
                    have hz : unzz U = -((U : Int) / 2) - 1 := by unfold unzz; rw [if_neg (by omega)]; omega
                    have HZ := Lib.hid hz
                    clear hz hm2
                    go_wp2_with fail
                    go_ret3
                    exact ⟨by unfold GetAt; rw [HG.out, HZ.out]; simp only; rw [show ((k + (m + 1) : Nat) : Int) = (k : Int) + m + 1 by omega]; rfl, by first | rfl | trivial⟩
                | succ j =>
                  have hjT : j < T.length := by rw [HTLEN.out]; omega
                  obtain ⟨c, hc⟩ : ∃ c, T[j]? = some c := ⟨_, List.getElem?_eq_getElem hjT⟩
                  have hsc : s.data.toList[k + j]? = some c := by rw [HTAT.out j (by omega)]; exact hc
                  have hix := run_sat s (k + j) c hsc w
                  have hdr : T.drop j = c :: T.drop (j + 1) := by rw [List.drop_eq_getElem_cons hjT, (List.getElem?_eq_some_iff.1 hc).2]
                  have hac : accV (T.drop j) = c.toNat % 128 + 128 * accV (T.drop (j + 1)) := by rw [hdr, accV_cons]
                  have hle := accV_drop T j
                  have ej : ((j + 1 : Nat) : Int) - 1 = (j : Int) := by omega
                  have hkj : (k : Int) + j < s.size := by
                    have h1 := (List.getElem?_eq_some_iff.1 hsc).1
                    rw [HE4.out] at h1
                    omega
                  rw [ej]
                  rw [Int.natCast_add] at hix
                  obtain ⟨X, hX⟩ : ∃ X, accV (T.drop (j + 1)) = X := ⟨_, rfl⟩
                  rw [hX] at hac ⊢
                  have hc8 : c.toNat < 256 := c.toNat_lt
                  have hXl : (X : Int) * 128 + (c.toNat : Int) % 128 ≤ 18446744073709551615 := by omega
                  have hX1 : (X : Int) * 128 ≤ 18446744073709551615 := by omega
                  have hge : (0 : Int) ≤ (j : Int) := by omega
                  have HAC := Lib.hid hac
                  clear hc hsc hdr hac hle hX hjT
                  go_wp2_with fail
                  exact ⟨⟨j, by omega, rfl, by rw [HAC.out]; congr 1; omega, by first | rfl | trivial⟩, by simp [intOf]⟩
      · have hd5 : decide ((b.toNat : Int) < 128) = false := by simp <;> omega
        have hall2 : ∀ b ∈ (s.data.toList.drop k).take (m + 1), 128 ≤ b.toNat := by
          have hx : (s.data.toList.drop k)[m]? = some b := by rw [List.getElem?_drop]; exact hb
          rw [List.take_add_one, hx]
          intro c hc
          rcases List.mem_append.1 hc with h | h
          · exact hall c h
          · simp at h
            subst h
            omega
        have HALL := Lib.hid hall2
        clear hall hall2 h128 hb hend hkl
        go_wp2_with fail
        exact ⟨⟨m + 1, by omega, by simp, by first | rfl | trivial, by omega, HALL.out, by first | rfl | trivial⟩, by simp [intOf]; omega⟩
set_option maxRecDepth 100000 in
set_option maxHeartbeats 2000000 in
theorem r1_gettext (s : ByteArray) (k : Nat) (hk : k ≤ s.size) (hs : s.size ≤ 281474976710656) (w : World) : Calls Try.prog 30 #[.string s, .int .i64 (k : Int)] w fun e w' => TextAt s.data.toList k e ∧ w = w' := by
  have hg := r1_get s k hk hs w
  have e4 := bs_len s
  have HG := Lib.hid hg
  have HE4 := Lib.hid e4
  clear hg
  go_enter Try.func30, Try.ntmps30
  go_wp2_with fail
  refine HG.out.mono ?_
  rintro e w1 ⟨hga, rfl⟩
  unfold GetAt at hga
  cases hv : getV s.data.toList k with
  | inr c =>
    rw [hv] at hga
    simp only at hga
    subst hga
    have hc := getV_err hv
    have hq : (c != 0) = true := by rcases hc with rfl | rfl <;> rfl
    have hq2 : (c == 0) = false := by rcases hc with rfl | rfl <;> rfl
    have ht : textV s.data.toList k = .inr c := by unfold textV; rw [hv]
    have HT := Lib.hid ht
    clear hv ht hc
    go_wp2_with fail
    all_goals first | (exfalso; simp_all; done) | skip
    go_ret3
    exact ⟨by unfold TextAt; rw [HT.out]; rfl, by first | rfl | trivial⟩
  | inl x =>
    obtain ⟨n, j⟩ := x
    rw [hv] at hga
    simp only at hga
    subst hga
    obtain ⟨j1, j2⟩ := getV_le (by rw [e4]; exact hk) hv
    obtain ⟨n1, n2⟩ := getV_in hv
    rw [e4] at j2
    have ht : textV s.data.toList k = if n < 0 then .inr 4 else if n > 65535 then .inr 5 else if (s.size : Int) - j < n then .inr 3 else .inl ((s.data.toList.drop j).take n.toNat, j + n.toNat) := by unfold textV; rw [hv, ← e4]
    have HT := Lib.hid ht
    clear hv ht e4
    by_cases c1 : n < 0
    · have d1 : decide (n < 0) = true := decide_eq_true c1
      have h2 := HT.out
      rw [if_pos c1] at h2
      have H2 := Lib.hid h2
      clear h2 c1
      go_wp2_with fail
      go_ret3
      exact ⟨by unfold TextAt; rw [H2.out]; rfl, by first | rfl | trivial⟩
    · have d1 : decide (n < 0) = false := decide_eq_false c1
      by_cases c2 : n > 65535
      · have d2 : decide (n > 65535) = true := decide_eq_true c2
        have h2 := HT.out
        rw [if_neg c1, if_pos c2] at h2
        have H2 := Lib.hid h2
        clear h2 c1 c2
        go_wp2_with fail
        go_ret3
        exact ⟨by unfold TextAt; rw [H2.out]; rfl, by first | rfl | trivial⟩
      · have d2 : decide (n > 65535) = false := decide_eq_false c2
        obtain ⟨m, rfl⟩ : ∃ m : Nat, n = (m : Int) := ⟨n.toNat, by omega⟩
        by_cases c3 : (s.size : Int) - j < m
        · have d3 : decide ((j : Int) + m > (s.size : Int)) = true := by simp; omega
          have h2 := HT.out
          rw [if_neg c1, if_neg c2, if_pos c3] at h2
          have H2 := Lib.hid h2
          clear h2 c1 c3
          go_wp2_with fail
          go_ret3
          exact ⟨by unfold TextAt; rw [H2.out]; rfl, by first | rfl | trivial⟩
        · have d3 : decide ((j : Int) + m > (s.size : Int)) = false := by simp; omega
          have h2 := HT.out
          rw [if_neg c1, if_neg c2, if_neg c3] at h2
          have H2 := Lib.hid h2
          obtain ⟨T, hTe⟩ : ∃ T, s.extract j (j + m) = T := ⟨_, rfl⟩
          have hsl := run_slice_string (P := Try.prog) w 9 s .i64 .i64 (j : Int) ((j : Int) + m) Try.underlying9 (by omega) (by omega) (by omega)
          rw [show ((j : Int) + m).toNat = j + m by omega, show (j : Int).toNat = j by omega, hTe] at hsl
          have hTl : (⟨((s.data.toList.drop j).take m).toArray⟩ : ByteArray) = T := bs_eq (by rw [← hTe, bs_ext, List.drop_take, Nat.add_sub_cancel_left])
          have HTL := Lib.hid hTl
          clear h2 hTe hTl
          go_wp2_with fail
          go_ret3
          exact ⟨by unfold TextAt; rw [H2.out]; simp only [Int.toNat_natCast]; rw [HTL.out, Int.natCast_add]; rfl, by first | rfl | trivial⟩
set_option maxRecDepth 100000 in
set_option maxHeartbeats 2000000 in
theorem rv_text (s : ByteArray) (hs : s.size ≤ 281474976710656) (w : World) : Calls Try.prog 26 #[.string s] w fun e w' => e = .returned (.string ⟨(putT s).toArray⟩) ∧ Chg (fun _ => False) w w' := by
  have hp := r1_put (s.size : Int) (by omega) (by omega) w
  have hl := putV_len (n := (s.size : Int)) (by omega) (by omega)
  obtain ⟨T, hT⟩ : ∃ T : ByteArray, (⟨(putV (s.size : Int)).toArray⟩ : ByteArray) = T := ⟨_, rfl⟩
  have hTs : T.size ≤ 10 := by rw [← hT]; show (putV (s.size : Int)).toArray.size ≤ 10; rw [List.size_toArray]; exact hl
  have hr : (⟨(putT s).toArray⟩ : ByteArray) = T ++ s := by
    apply bs_eq
    rw [← hT]
    simp [putT]
  rw [hT] at hp
  have hadd := cat_ok T s (by omega)
  have HP := Lib.hid hp
  have HR := Lib.hid hr
  clear hp hr hT hl
  go_enter Try.func26, Try.ntmps26
  go_wp2_with fail
  refine HP.out.mono ?_
  rintro e w1 ⟨rfl, hc1⟩
  have HC1 := Lib.hid hc1
  clear hc1
  go_wp2_with fail
  go_ret
  exact ⟨by rw [HR.out]; rfl, HC1.out⟩
end Go.Proofs.Ytahahginmgidjaa
