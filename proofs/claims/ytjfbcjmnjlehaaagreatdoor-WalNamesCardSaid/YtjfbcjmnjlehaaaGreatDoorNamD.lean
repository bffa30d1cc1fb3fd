/-
  Names of files: the document's Number; the walk of WalNames.
-/
import Derived.Test.YtjfbcjmnjlehaaaGreatDoorNamC
namespace Go.Proofs.YtjfbcjmnjlehaaaGreatDoor
open Go.RowKit Go.Shelf
set_option linter.unusedVariables false
set_option linter.unusedSimpArgs false

theorem numL_no {k s : List UInt8} (h : ¬ (s.length = k.length + 9 ∧ (s.drop (k.length + 1)).all isDig = true ∧ fileL k (valFrom 0 (s.drop (k.length + 1)) : Nat) = s)) : numL k s = (0, false) := by
  unfold numL
  rw [if_neg h]
theorem val_take {l : List UInt8} {j : Nat} (h : j < l.length) : valFrom 0 (l.take (j + 1)) = 10 * valFrom 0 (l.take j) + (l[j].toNat - 48) := by
  rw [List.take_succ_eq_append_getElem h, val_append]
  rfl
theorem all_take {l : List UInt8} {j : Nat} (h : j < l.length) (h1 : (l.take j).all isDig = true) (h2 : isDig l[j] = true) : (l.take (j + 1)).all isDig = true := by
  rw [List.take_succ_eq_append_getElem h, List.all_append, h1]
  simp [h2]
set_option maxRecDepth 100000 in
set_option maxHeartbeats 2000000 in
theorem rf_number (k s : ByteArray) (hk : k.size ≤ 140737488351232) (hs : s.size ≤ 140737488351232) (w : World) : Calls Tryz.prog 6 #[.string k, .string s] w (NumPost w k s) := by
  have hkl : k.data.toList.length = k.size := by rw [Array.length_toList]; rfl
  have hsl : s.data.toList.length = s.size := by rw [Array.length_toList]; rfl
  have hnum : ∀ x b, numL k.data.toList s.data.toList = (x, b) → (Calls Tryz.prog 6 #[.string k, .string s] w fun e w' => e = .returned (.tuple #[.int .i64 x, .bool b]) ∧ Chg (fun _ => False) w w') → Calls Tryz.prog 6 #[.string k, .string s] w (NumPost w k s) := by
    intro x b h hc
    unfold NumPost
    rw [h]
    exact hc
  by_cases hz : s.size = k.size + 9
  · have hfile := fun v h0 h1 w => rf_file k v hk h0 h1 w
    obtain ⟨D, hD⟩ : ∃ D, s.data.toList.drop (k.size + 1) = D := ⟨_, rfl⟩
    have hDl : D.length = 8 := by rw [← hD, List.length_drop, hsl]; omega
    have hat : ∀ j (h : j < D.length) (h2 : k.size + 1 + j < s.size), s[k.size + 1 + j] = D[j] := fun j h h2 => by
      subst hD
      rw [List.getElem_drop, Array.getElem_toList]
      rfl
    obtain ⟨xb, hxb⟩ : ∃ xb, numL k.data.toList s.data.toList = xb := ⟨_, rfl⟩
    obtain ⟨x, b⟩ := xb
    refine hnum x b hxb ?_
    have hz1 : ((s.size : Int) == (k.size : Int) + 9) = true := by rw [beq_iff_eq]; omega
    have HXB := Lib.hid hxb
    have HF := Lib.hid hfile
    have HD := Lib.hid hD
    have HAT := Lib.hid hat
    have HKL := Lib.hid hkl
    have HSL := Lib.hid hsl
    have HZ := Lib.hid hz
    clear hnum hxb hfile hD hat hkl hsl
    go_enter Tryz.func6, Tryz.ntmps6
    go_wp2_with fail
    go_loopw [7, 8] (fun n i wr => ∃ j : Nat, j ≤ 8 ∧ i = .int .i64 (((k.size + 1 + j : Nat) : Int)) ∧ n = .int .i64 ((valFrom 0 (D.take j) : Nat) : Int) ∧ (D.take j).all isDig = true ∧ w = wr) (fun _ i _ => k.size + 10 - (intOf i).toNat)
    case atStart => exact ⟨0, by omega, by simp, rfl, rfl, rfl⟩
    case round =>
      obtain ⟨j, hj, rfl, rfl, hall, rfl⟩ := hrel
      have hvl := val_lt (D.take j) 0 hall
      rw [List.length_take, hDl, Nat.min_eq_left hj] at hvl
      have hp : (10 : Nat) ^ j ≤ 100000000 := Nat.le_trans (Nat.pow_le_pow_right (by omega) hj) (by decide)
      have hv8 : valFrom 0 (D.take j) ≤ 100000000 := by omega
      obtain ⟨i, hi⟩ : ∃ i, k.size + 1 + j = i := ⟨_, rfl⟩
      by_cases hj8 : j < 8
      · have hx := fun w => run_at s (k.size + 1 + j) (by omega) w
        rw [HAT.out j (by omega) (by omega)] at hx
        have hvt := val_take (l := D) (j := j) (by omega)
        have hjD : j < D.length := by omega
        have hallt : isDig D[j] = true → (D.take (j + 1)).all isDig = true := all_take hjD hall
        obtain ⟨c, hc⟩ : ∃ c, D[j] = c := ⟨_, rfl⟩
        rw [hc] at hx hvt hallt
        obtain ⟨V, hV⟩ : ∃ V, valFrom 0 (D.take j) = V := ⟨_, rfl⟩
        rw [hV] at hvt hv8 ⊢
        rw [hi] at hx ⊢
        have hi1 : i < s.size := by omega
        have hi2 : (i : Int) < (s.size : Int) := by omega
        clear hvl hp hV
        cases hdg : isDig c with
        | true =>
          have hb : 48 ≤ c.toNat ∧ c.toNat ≤ 57 := by simpa [isDig] using hdg
          have hall2 := hallt hdg
          have hd3 : decide ((c.toNat : Int) < 48) = false := by simp; omega
          have hd4 : decide ((c.toNat : Int) > 57) = false := by simp; omega
          obtain ⟨d, hd⟩ : ∃ d : Nat, c.toNat = 48 + d := ⟨c.toNat - 48, by omega⟩
          have e2 : (c.toNat : Int) - 48 = (d : Int) := by omega
          have hvt2 : valFrom 0 (D.take (j + 1)) = 10 * V + d := by rw [hvt]; omega
          have hd9 : d ≤ 9 := by omega
          have HV := Lib.hid hvt2
          have HA := Lib.hid hall2
          have HI := Lib.hid hi
          clear hvt hvt2 hallt hall2 hall hc hd hb hz hi hdg
          go_wp2_with fail
          go_roundw
          case rel => exact ⟨j + 1, by omega, by rw [← HI.out]; simp; omega, by rw [HV.out]; simp, HA.out, by first | rfl | trivial⟩
          case measure => have h9 := HI.out; simp [intOf]; omega
        | false =>
          have hno := numL_no (k := k.data.toList) (s := s.data.toList) (by
            rintro ⟨_, h2, _⟩
            rw [HKL.out, HD.out] at h2
            have := List.all_eq_true.1 h2 c (by rw [← hc]; exact List.getElem_mem _)
            rw [hdg] at this
            cases this)
          rw [HXB.out] at hno
          injection hno with hx0 hb0
          subst hx0 hb0
          have hb : ¬ (48 ≤ c.toNat ∧ c.toNat ≤ 57) := fun h => by
            have : isDig c = true := by simpa [isDig] using h
            rw [hdg] at this
            cases this
          clear hvt hallt hall hc hz hi hdg
          by_cases h48 : c.toNat < 48
          · have hd3 : decide ((c.toNat : Int) < 48) = true := by simp; omega
            go_wp2_with fail
            go_ret2
            exact ⟨rfl, Chg.refl _ _⟩
          · have hd3 : decide ((c.toNat : Int) < 48) = false := by simp; omega
            have hd4 : decide ((c.toNat : Int) > 57) = true := by simp; omega
            go_wp2_with fail
            go_ret2
            exact ⟨rfl, Chg.refl _ _⟩
      · obtain rfl : j = 8 := by omega
        rw [List.take_of_length_le (by omega)] at *
        have hnl : numL k.data.toList s.data.toList = if fileL k.data.toList (valFrom 0 D : Nat) = s.data.toList then (((valFrom 0 D : Nat) : Int), true) else ((0 : Int), false) := by
          unfold numL
          rw [HKL.out, HD.out, HSL.out]
          by_cases hf : fileL k.data.toList (valFrom 0 D : Nat) = s.data.toList
          · rw [if_pos ⟨HZ.out, hall, hf⟩, if_pos hf]
          · rw [if_neg (fun h => hf h.2.2), if_neg hf]
        rw [HXB.out] at hnl
        obtain ⟨V, hV⟩ : ∃ V, valFrom 0 D = V := ⟨_, rfl⟩
        rw [hV] at hnl hv8 ⊢
        have hff := fun w => HF.out (V : Int) (by omega) (by omega) w
        obtain ⟨f, hf⟩ : ∃ f, fileB k (V : Int) = f := ⟨_, rfl⟩
        have hfl : fileL k.data.toList (V : Int) = f.data.toList := by rw [← hf]; rfl
        rw [hf] at hff
        rw [hfl] at hnl
        have htest := ba_test f s
        have hi2 : ¬ ((k.size + 1 + 8 : Nat) : Int) < (s.size : Int) := by omega
        obtain ⟨i, hi⟩ : ∃ i, k.size + 1 + 8 = i := ⟨_, rfl⟩
        rw [hi] at hi2 ⊢
        have HFF := Lib.hid hff
        clear hff hf hfl hvl hp hall hV hz hi
        by_cases hfs : f = s
        · rw [if_pos (by rw [hfs])] at hnl
          injection hnl with hx0 hb0
          subst hx0 hb0
          rw [decide_eq_true hfs] at htest
          clear hfs
          go_wp2_with fail
          refine (HFF.out _).mono ?_
          rintro e w3 ⟨rfl, hc3⟩
          have HC3 := Lib.hid hc3
          clear hc3
          go_wp2_with fail
          go_ret2
          exact ⟨rfl, HC3.out⟩
        · rw [if_neg (fun e => hfs (ba_eq e))] at hnl
          injection hnl with hx0 hb0
          subst hx0 hb0
          rw [decide_eq_false hfs] at htest
          clear hfs
          go_wp2_with fail
          refine (HFF.out _).mono ?_
          rintro e w3 ⟨rfl, hc3⟩
          have HC3 := Lib.hid hc3
          clear hc3
          go_wp2_with fail
          go_ret2
          exact ⟨rfl, HC3.out⟩
  · have hno := numL_no (k := k.data.toList) (s := s.data.toList) (by
      rintro ⟨h1, _⟩
      rw [hkl, hsl] at h1
      exact hz h1)
    refine hnum 0 false hno ?_
    have hz1 : ((s.size : Int) == (k.size : Int) + 9) = false := by rw [beq_eq_false_iff_ne]; omega
    clear hno hnum hkl hsl hz
    go_enter Tryz.func6, Tryz.ntmps6
    go_wp2_with fail
    go_ret2
    exact ⟨rfl, Chg.refl _ _⟩
/-- Name of a log, every number. -/
theorem wal_name_any (n : Int) (h0 : -9223372036854775808 ≤ n) (h1 : n ≤ 9223372036854775807) (w : World) (ht : Tab w) : Calls Tryz.prog 10 #[.int .i64 n] w fun e w' => e = .returned (.string (fileB ⟨#[108, 111, 103]⟩ n)) ∧ Chg (fun _ => False) w w' := by
  have HF := Lib.hid (wal_file ⟨#[108, 111, 103]⟩ n (by decide) h0 h1 w ht)
  clear ht
  go_enter Tryz.func10, Tryz.ntmps10
  go_wp2_with fail
  refine HF.out.mono ?_
  rintro e w1 ⟨rfl, hc1⟩
  go_wp2_with fail
  go_ret
  exact ⟨rfl, hc1⟩
set_option maxRecDepth 100000 in
set_option maxHeartbeats 2000000 in
theorem wal_names (k s : ByteArray) (n : Int) (hk : k.size ≤ 140737488351232) (hs : s.size ≤ 140737488351232) (h0 : -9223372036854775808 ≤ n) (h1 : n ≤ 9223372036854775807) (w : World) (ht : Tab w) (he : ErrOk w) :
    Calls Tryz.prog 3 #[.string k, .string s, .int .i64 n] w fun e w' => e = .returned (.bool true) ∧ Chg (fun _ => False) w w' := by
  have c1 := wal_number k s hk hs w ht he
  have c2 := fun w => rf_number k s hk hs w
  unfold NumPost at c1 c2
  obtain ⟨x, hx⟩ : ∃ x, (numL k.data.toList s.data.toList).1 = x := ⟨_, rfl⟩
  obtain ⟨b, hb⟩ : ∃ b, (numL k.data.toList s.data.toList).2 = b := ⟨_, rfl⟩
  rw [hx, hb] at c1
  simp only [hx, hb] at c2
  have c3 := fun w ht => wal_file k n hk h0 h1 w ht
  have c4 := fun w => rf_file k n hk h0 h1 w
  obtain ⟨f, hf⟩ : ∃ f, fileB k n = f := ⟨_, rfl⟩
  simp only [hf] at c3 c4
  have c5 := fun w ht => wal_name_any n h0 h1 w ht
  have c6 := fun w => rf_file ⟨#[108, 111, 103]⟩ n (by decide) h0 h1 w
  obtain ⟨g, hg⟩ : ∃ g, fileB ⟨#[108, 111, 103]⟩ n = g := ⟨_, rfl⟩
  simp only [hg] at c5 c6
  have C1 := Lib.hid c1
  have C2 := Lib.hid c2
  have C3 := Lib.hid c3
  have C4 := Lib.hid c4
  have C5 := Lib.hid c5
  have C6 := Lib.hid c6
  have HT := Lib.hid ht
  clear c1 c2 c3 c4 c5 c6 ht he hx hb hf hg
  have q1 : (f.toList == f.toList) = true := by simp
  have q2 : (g.toList == g.toList) = true := by simp
  have q3 : (x == x) = true := by simp
  have q4 : (b == b) = true := by simp
  go_enter Tryz.func3, Tryz.ntmps3
  go_wp2_with fail
  refine C1.out.mono ?_
  rintro e w1 ⟨rfl, hc1⟩
  have H1 := Lib.hid hc1
  clear hc1
  go_wp2_with fail
  refine (C2.out _).mono ?_
  rintro e w2 ⟨rfl, hc2⟩
  have H2 := Lib.hid (H1.out.then hc2)
  clear hc2
  go_wp2_with fail
  refine (wal_wakes _).mono ?_
  rintro e w3 ⟨rfl, hc3⟩
  have H3 := Lib.hid (H2.out.then hc3)
  clear hc3
  go_wp2_with fail
  refine (C3.out _ (HT.out.chg H3.out)).mono ?_
  rintro e w4 ⟨rfl, hc4⟩
  have H4 := Lib.hid (H3.out.then hc4)
  clear hc4
  go_wp2_with fail
  refine (C4.out _).mono ?_
  rintro e w5 ⟨rfl, hc5⟩
  have H5 := Lib.hid (H4.out.then hc5)
  clear hc5
  go_wp2_with fail
  refine (C5.out _ (HT.out.chg H5.out)).mono ?_
  rintro e w6 ⟨rfl, hc6⟩
  have H6 := Lib.hid (H5.out.then hc6)
  clear hc6
  go_wp2_with fail
  refine (C6.out _).mono ?_
  rintro e w7 ⟨rfl, hc7⟩
  have H7 := Lib.hid (H6.out.then hc7)
  clear hc7
  go_wp2_with fail
  go_ret
  exact ⟨by first | rfl | (simp; done) | (cases b <;> simp), H7.out⟩
end Go.Proofs.YtjfbcjmnjlehaaaGreatDoor
