/-
  The document's digits.
-/
import Derived.Test.YtihkackkbdnagaaDoorFeeE
namespace Go.Proofs.YtihkackkbdnagaaDoor
open Go.RowKit Go.Shelf
set_option linter.unusedVariables false
set_option linter.unusedSimpArgs false

theorem r3_decimal (n : Int) (h0 : -9223372036854775808 ≤ n) (h1 : n ≤ 9223372036854775807) (w : World) : Calls Tryd.prog 17 #[.int .i64 n] w fun e w' => e = .returned (.string ⟨(Lib.itoa n).toArray⟩) ∧ Chg (fun _ => False) w w' := by
  rcases Int.lt_trichotomy n 0 with h | h | h
  · obtain ⟨K, rfl⟩ : ∃ K : Nat, n = -((K : Nat) : Int) := ⟨n.natAbs, by omega⟩
    exact r3_decimal_neg K (by omega) (by omega) w
  · subst h
    have e : (⟨(Lib.itoa 0).toArray⟩ : ByteArray) = ⟨#[48]⟩ := by
      unfold Lib.itoa
      rw [if_neg (by omega)]
      show (⟨(Lib.decDigits 0).toArray⟩ : ByteArray) = _
      rw [dec_small (by omega)]
      rfl
    rw [e]
    go_enter Tryd.func17, Tryd.ntmps17
    go_wp2_with fail
    go_ret
    exact ⟨rfl, Chg.refl _ _⟩
  · obtain ⟨K, rfl⟩ : ∃ K : Nat, n = ((K : Nat) : Int) := ⟨n.natAbs, by omega⟩
    exact r3_decimal_pos K (by omega) (by omega) w
theorem valL_lt : ∀ (l : List UInt8) (acc : Nat), l.all isDg = true → valL acc l < (acc + 1) * 10 ^ l.length
  | [], acc, _ => by simp [valL]
  | b :: r, acc, h => by
    simp only [List.all_cons, Bool.and_eq_true] at h
    have hb : 48 ≤ b.toNat ∧ b.toNat ≤ 57 := by simpa [isDg] using h.1
    have ih := valL_lt r (10 * acc + (b.toNat - 48)) h.2
    show valL (10 * acc + (b.toNat - 48)) r < _
    refine Nat.lt_of_lt_of_le ih ?_
    rw [List.length_cons, Nat.pow_succ', ← Nat.mul_assoc]
    exact Nat.mul_le_mul_right _ (by omega)
theorem valL_take {l : List UInt8} {j : Nat} (h : j < l.length) : valL 0 (l.take (j + 1)) = 10 * valL 0 (l.take j) + (l[j].toNat - 48) := by
  rw [List.take_succ_eq_append_getElem h, valL_append]
  rfl
theorem allL_take {l : List UInt8} {j : Nat} (h : j < l.length) (h1 : (l.take j).all isDg = true) (h2 : isDg l[j] = true) : (l.take (j + 1)).all isDg = true := by
  rw [List.take_succ_eq_append_getElem h, List.all_append, h1]
  simp [h2]
theorem run_at (r : ByteArray) (i : Nat) (h : i < r.size) (w : World) : (Instr.index 9 (.string r) (.int .i64 (i : Int))).run Tryd.prog w = .ok (.int .u8 (r[i].toNat : Int)) w := by
  rw [run_index_string w _ _ _ _ Tryd.underlying9, dif_pos ⟨by omega, by omega⟩]
  simp
set_option maxRecDepth 100000 in
set_option maxHeartbeats 4000000 in
theorem r3_digits (s : ByteArray) (hs : s.size ≤ 4294967280) (w : World) : Calls Tryd.prog 21 #[.string s] w fun e w' => NumAt s e ∧ Chg (fun _ => False) w w' := by
  have e4 : s.data.toList.length = s.size := by rw [Array.length_toList]; rfl
  cases hl : s.data.toList with
  | nil =>
    have hno : numV s.data.toList = none := by rw [hl]; exact numV_nil
    have hz : s.size = 0 := by rw [← e4, hl]; rfl
    have HNO := Lib.hid hno
    clear hno hl e4
    go_enter Tryd.func21, Tryd.ntmps21
    go_wp2_with fail
    go_ret2
    exact ⟨⟨0, false, rfl, by rw [HNO.out]⟩, Chg.refl _ _⟩
  | cons c R =>
    have hz : 0 < s.size := by rw [← e4, hl]; simp
    have hp0 : decide ((s.size : Int) > 0) = true := by simp <;> omega
    have hx0 : ∀ w, (Instr.index 9 (.string s) (.int .i64 0)).run Tryd.prog w = .ok (.int .u8 (c.toNat : Int)) w := fun w => by
      have h1 := run_at s 0 hz w
      have h2 : s[0] = c := by
        have : s[0] = s.data.toList[0]'(by rw [e4]; exact hz) := by rw [Array.getElem_toList]; rfl
        rw [this]
        simp [hl]
      rw [h2] at h1
      exact h1
    by_cases hc : c = 45
    · have hq : ((c.toNat : Int) == 45) = true := by rw [hc]; rfl
      obtain ⟨t, hr⟩ : ∃ t, s.extract 1 s.size = t := ⟨_, rfl⟩
      have htl : refTail s.data.toList = t.data.toList := by
        rw [← hr, ByteArray.data_extract, Array.toList_extract, hl, hc]
        have h5 : s.size = R.length + 1 := by rw [← e4, hl]; rfl
        simp [refTail, h5]
      have e3 : t.data.toList.length = t.size := by rw [Array.length_toList]; rfl
      have hts : t.size + 1 = s.size := by rw [← hr]; simp; omega
      have hlt : decide ((t.size : Int) < (s.size : Int)) = true := by simp <;> omega
      have HTL := Lib.hid htl
      clear htl hc hl
      have hfail : ¬ (1 ≤ t.size ∧ t.size ≤ 16 ∧ t.data.toList.all isDg = true) → numV s.data.toList = none := fun h => by
        rw [← refNum_eq]
        unfold refNum
        rw [if_neg]
        rintro ⟨h1, h2, h3, _⟩
        rw [HTL.out] at h1 h2 h3
        rw [e3] at h1 h2
        exact h ⟨h1, h2, h3⟩
      have hval : 1 ≤ t.size → t.size ≤ 16 → t.data.toList.all isDg = true → numV s.data.toList = if Lib.itoa (-((valL 0 t.data.toList : Nat) : Int)) = s.data.toList ∧ -maxN ≤ -((valL 0 t.data.toList : Nat) : Int) ∧ -((valL 0 t.data.toList : Nat) : Int) ≤ maxN then some (-((valL 0 t.data.toList : Nat) : Int)) else none := fun h1 h2 h3 => by
        rw [← refNum_eq]
        have hsg : refSign s.data.toList = -((valL 0 t.data.toList : Nat) : Int) := by
          unfold refSign
          rw [HTL.out, e3, e4]
          rw [if_pos (by omega)]
        unfold refNum
        rw [hsg, HTL.out, e3]
        by_cases h : Lib.itoa (-((valL 0 t.data.toList : Nat) : Int)) = s.data.toList ∧ -maxN ≤ -((valL 0 t.data.toList : Nat) : Int) ∧ -((valL 0 t.data.toList : Nat) : Int) ≤ maxN
        · rw [if_pos h, if_pos ⟨h1, h2, h3, h⟩]
        · rw [if_neg h, if_neg (fun h' => h h'.2.2.2)]
      have HFAIL := Lib.hid hfail
      have HVAL := Lib.hid hval
      clear hfail hval
      by_cases hm : ¬ (1 ≤ t.size ∧ t.size ≤ 16)
      · have hno := HFAIL.out fun h => hm ⟨h.1, h.2.1⟩
        have HNO := Lib.hid hno
        have ways : t.size < 1 ∨ (1 ≤ t.size ∧ 16 < t.size) := by omega
        clear hm hno
        rcases ways with h | ⟨h, h2⟩
        · have hd1 : decide ((t.size : Int) < 1) = true := by simp <;> omega
          clear h
          go_enter Tryd.func21, Tryd.ntmps21
          go_wp2_with fail
          go_ret2
          exact ⟨⟨0, false, rfl, by rw [HNO.out]⟩, Chg.refl _ _⟩
        · have hd1 : decide ((t.size : Int) < 1) = false := by simp <;> omega
          have hd2 : decide ((t.size : Int) > 16) = true := by simp <;> omega
          clear h h2
          go_enter Tryd.func21, Tryd.ntmps21
          go_wp2_with fail
          go_ret2
          exact ⟨⟨0, false, rfl, by rw [HNO.out]⟩, Chg.refl _ _⟩
      · have hm := Classical.not_not.1 hm
        obtain ⟨hm1, hm2⟩ := hm
        have hd1 : decide ((t.size : Int) < 1) = false := by simp <;> omega
        have hd2 : decide ((t.size : Int) > 16) = false := by simp <;> omega
        have E3 := Lib.hid e3
        clear e3 e4
        go_enter Tryd.func21, Tryd.ntmps21
        go_wp2_with fail
        go_loopw [5, 6] (fun n i wr => ∃ j : Nat, j ≤ t.size ∧ i = .int .i64 (j : Int) ∧ n = .int .i64 ((valL 0 (t.data.toList.take j) : Nat) : Int) ∧ (t.data.toList.take j).all isDg = true ∧ w = wr) (fun _ i _ => t.size + 1 - (intOf i).toNat)
        case atStart => exact ⟨0, by omega, rfl, rfl, rfl, rfl⟩
        case round =>
          obtain ⟨j, hj, rfl, rfl, hall, rfl⟩ := hrel
          have hvl := valL_lt (t.data.toList.take j) 0 hall
          rw [List.length_take, E3.out, Nat.min_eq_left hj] at hvl
          have hp : (10 : Nat) ^ j ≤ 10000000000000000 := Nat.le_trans (Nat.pow_le_pow_right (by omega) (show j ≤ 16 by omega)) (by decide)
          have hv8 : valL 0 (t.data.toList.take j) ≤ 10000000000000000 := by omega
          by_cases hjt : j < t.size
          · have hjl : j < t.data.toList.length := by rw [E3.out]; exact hjt
            have hx := fun w => run_at t j hjt w
            have hge : t[j] = t.data.toList[j] := by rw [Array.getElem_toList]; rfl
            rw [hge] at hx
            have hvt := valL_take hjl
            have hallt : isDg (t.data.toList[j]) = true → (t.data.toList.take (j + 1)).all isDg = true := allL_take hjl hall
            have hmem : t.data.toList[j] ∈ t.data.toList := List.getElem_mem _
            obtain ⟨c, hc⟩ : ∃ c, t.data.toList[j] = c := ⟨_, rfl⟩
            rw [hc] at hx hvt hallt hmem
            obtain ⟨V, hV⟩ : ∃ V, valL 0 (t.data.toList.take j) = V := ⟨_, rfl⟩
            rw [hV] at hvt hv8 ⊢
            have hi2 : (j : Int) < (t.size : Int) := by omega
            clear hvl hp hV hc hge
            cases hdg : isDg c with
            | true =>
              have hb : 48 ≤ c.toNat ∧ c.toNat ≤ 57 := by simpa [isDg] using hdg
              have hall2 := hallt hdg
              have hd3 : decide ((c.toNat : Int) < 48) = false := by simp; omega
              have hd4 : decide ((c.toNat : Int) > 57) = false := by simp; omega
              obtain ⟨d, hd⟩ : ∃ d : Nat, c.toNat = 48 + d := ⟨c.toNat - 48, by omega⟩
              have e2 : (c.toNat : Int) - 48 = (d : Int) := by omega
              have hvt2 : valL 0 (t.data.toList.take (j + 1)) = 10 * V + d := by rw [hvt]; omega
              have hd9 : d ≤ 9 := by omega
              have HV := Lib.hid hvt2
              have HA := Lib.hid hall2
              clear hvt hvt2 hallt hall2 hall hd hb hdg hmem
              go_wp2_with fail
              go_roundw
              case rel => exact ⟨j + 1, by omega, by go_num, by rw [HV.out]; simp, HA.out, by first | rfl | trivial⟩
              case measure => simp [intOf]; omega
            | false =>
              have hno := HFAIL.out fun h => by
                have := List.all_eq_true.1 h.2.2 c hmem
                rw [hdg] at this
                cases this
              have HNO := Lib.hid hno
              have hb : ¬ (48 ≤ c.toNat ∧ c.toNat ≤ 57) := fun h => by
                have : isDg c = true := by simpa [isDg] using h
                rw [hdg] at this
                cases this
              clear hvt hallt hall hdg hmem hno
              by_cases h48 : c.toNat < 48
              · have hd3 : decide ((c.toNat : Int) < 48) = true := by simp; omega
                go_wp2_with fail
                go_ret2
                exact ⟨⟨0, false, rfl, by rw [HNO.out]⟩, Chg.refl _ _⟩
              · have hd3 : decide ((c.toNat : Int) < 48) = false := by simp; omega
                have hd4 : decide ((c.toNat : Int) > 57) = true := by simp; omega
                go_wp2_with fail
                go_ret2
                exact ⟨⟨0, false, rfl, by rw [HNO.out]⟩, Chg.refl _ _⟩
          · obtain rfl : j = t.size := by omega
            rw [List.take_of_length_le (by rw [E3.out]; exact Nat.le_refl _)] at hall hvl hv8 ⊢
            have hnv := HVAL.out hm1 hm2 hall
            obtain ⟨V, hV⟩ : ∃ V, valL 0 t.data.toList = V := ⟨_, rfl⟩
            rw [hV] at hnv hv8 ⊢
            have hdec := fun w => r3_decimal (-((V : Nat) : Int)) (by omega) (by omega) w
            obtain ⟨f, hf⟩ : ∃ f : ByteArray, (⟨(Lib.itoa (-((V : Nat) : Int))).toArray⟩ : ByteArray) = f := ⟨_, rfl⟩
            have hfl : Lib.itoa (-((V : Nat) : Int)) = f.data.toList := by rw [← hf]
            rw [hfl] at hnv
            simp only [hf] at hdec
            have htest := ba_test f s
            have HDEC := Lib.hid hdec
            have HNV := Lib.hid hnv
            clear hdec hf hfl hall hvl hp hV hnv
            by_cases hfs : f = s
            · rw [decide_eq_true hfs] at htest
              by_cases hr1 : (-((V : Nat) : Int) : Int) > 9007199254740992
              · exact absurd hr1 (by omega)
              · have hg1 : decide ((-((V : Nat) : Int) : Int) > 9007199254740992) = false := by simp <;> omega
                by_cases hr2 : (-((V : Nat) : Int) : Int) < -9007199254740992
                · have hno : numV s.data.toList = none := by rw [HNV.out, if_neg (fun h => by unfold maxN at h; omega)]
                  have HNO := Lib.hid hno
                  have hg2 : decide ((-((V : Nat) : Int) : Int) < -9007199254740992) = true := by simp <;> omega
                  clear hno hfs
                  go_wp2_with fail
                  refine (HDEC.out _).mono ?_
                  rintro e w3 ⟨rfl, hc3⟩
                  have HC3 := Lib.hid hc3
                  clear hc3
                  go_wp2_with fail
                  all_goals first | (exfalso; omega) | (go_ret2; exact ⟨⟨0, false, rfl, by rw [HNO.out]⟩, HC3.out⟩)
                · have hg2 : decide ((-((V : Nat) : Int) : Int) < -9007199254740992) = false := by simp <;> omega
                  have hyes : numV s.data.toList = some (-((V : Nat) : Int)) := by rw [HNV.out, if_pos ⟨by rw [hfs], by unfold maxN; omega, by unfold maxN; omega⟩]
                  have HYES := Lib.hid hyes
                  clear hyes hfs
                  go_wp2_with fail
                  refine (HDEC.out _).mono ?_
                  rintro e w3 ⟨rfl, hc3⟩
                  have HC3 := Lib.hid hc3
                  clear hc3
                  go_wp2_with fail
                  all_goals first | (exfalso; omega) | (go_ret2; exact ⟨⟨-((V : Nat) : Int), true, rfl, by rw [HYES.out]; first | exact ⟨rfl, rfl⟩ | (simp; done)⟩, HC3.out⟩)
            · have hno : numV s.data.toList = none := by rw [HNV.out, if_neg (fun h => hfs (ba_eq h.1))]
              rw [decide_eq_false hfs] at htest
              have HNO := Lib.hid hno
              clear hno hfs
              go_wp2_with fail
              refine (HDEC.out _).mono ?_
              rintro e w3 ⟨rfl, hc3⟩
              have HC3 := Lib.hid hc3
              clear hc3
              go_wp2_with fail
              go_ret2
              exact ⟨⟨0, false, rfl, by rw [HNO.out]⟩, HC3.out⟩
    · have hq : ((c.toNat : Int) == 45) = false := by
        rw [beq_eq_false_iff_ne]
        intro h
        exact hc (UInt8.toNat_inj.1 (by have : (45 : UInt8).toNat = 45 := rfl; omega))
      have htl : refTail s.data.toList = s.data.toList := by
        rw [hl]
        unfold refTail
        simp only
        rw [if_neg hc]
      have e3 : s.data.toList.length = s.size := e4
      have hlt : decide ((s.size : Int) < (s.size : Int)) = false := by simp
      have HTL := Lib.hid htl
      clear htl hc hl
      have hfail : ¬ (1 ≤ s.size ∧ s.size ≤ 16 ∧ s.data.toList.all isDg = true) → numV s.data.toList = none := fun h => by
        rw [← refNum_eq]
        unfold refNum
        rw [if_neg]
        rintro ⟨h1, h2, h3, _⟩
        rw [HTL.out] at h1 h2 h3
        rw [e3] at h1 h2
        exact h ⟨h1, h2, h3⟩
      have hval : 1 ≤ s.size → s.size ≤ 16 → s.data.toList.all isDg = true → numV s.data.toList = if Lib.itoa (((valL 0 s.data.toList : Nat) : Int)) = s.data.toList ∧ -maxN ≤ ((valL 0 s.data.toList : Nat) : Int) ∧ ((valL 0 s.data.toList : Nat) : Int) ≤ maxN then some (((valL 0 s.data.toList : Nat) : Int)) else none := fun h1 h2 h3 => by
        rw [← refNum_eq]
        have hsg : refSign s.data.toList = ((valL 0 s.data.toList : Nat) : Int) := by
          unfold refSign
          rw [HTL.out, e3]
          rw [if_neg (by omega)]
        unfold refNum
        rw [hsg, HTL.out, e3]
        by_cases h : Lib.itoa (((valL 0 s.data.toList : Nat) : Int)) = s.data.toList ∧ -maxN ≤ ((valL 0 s.data.toList : Nat) : Int) ∧ ((valL 0 s.data.toList : Nat) : Int) ≤ maxN
        · rw [if_pos h, if_pos ⟨h1, h2, h3, h⟩]
        · rw [if_neg h, if_neg (fun h' => h h'.2.2.2)]
      have HFAIL := Lib.hid hfail
      have HVAL := Lib.hid hval
      clear hfail hval
      by_cases hm : ¬ (1 ≤ s.size ∧ s.size ≤ 16)
      · have hno := HFAIL.out fun h => hm ⟨h.1, h.2.1⟩
        have HNO := Lib.hid hno
        have ways : s.size < 1 ∨ (1 ≤ s.size ∧ 16 < s.size) := by omega
        clear hm hno
        rcases ways with h | ⟨h, h2⟩
        · have hd1 : decide ((s.size : Int) < 1) = true := by simp <;> omega
          clear h
          go_enter Tryd.func21, Tryd.ntmps21
          go_wp2_with fail
          go_ret2
          exact ⟨⟨0, false, rfl, by rw [HNO.out]⟩, Chg.refl _ _⟩
        · have hd1 : decide ((s.size : Int) < 1) = false := by simp <;> omega
          have hd2 : decide ((s.size : Int) > 16) = true := by simp <;> omega
          clear h h2
          go_enter Tryd.func21, Tryd.ntmps21
          go_wp2_with fail
          go_ret2
          exact ⟨⟨0, false, rfl, by rw [HNO.out]⟩, Chg.refl _ _⟩
      · have hm := Classical.not_not.1 hm
        obtain ⟨hm1, hm2⟩ := hm
        have hd1 : decide ((s.size : Int) < 1) = false := by simp <;> omega
        have hd2 : decide ((s.size : Int) > 16) = false := by simp <;> omega
        have E3 := Lib.hid e3
        clear e3 e4
        go_enter Tryd.func21, Tryd.ntmps21
        go_wp2_with fail
        go_loopw [5, 6] (fun n i wr => ∃ j : Nat, j ≤ s.size ∧ i = .int .i64 (j : Int) ∧ n = .int .i64 ((valL 0 (s.data.toList.take j) : Nat) : Int) ∧ (s.data.toList.take j).all isDg = true ∧ w = wr) (fun _ i _ => s.size + 1 - (intOf i).toNat)
        case atStart => exact ⟨0, by omega, rfl, rfl, rfl, rfl⟩
        case round =>
          obtain ⟨j, hj, rfl, rfl, hall, rfl⟩ := hrel
          have hvl := valL_lt (s.data.toList.take j) 0 hall
          rw [List.length_take, E3.out, Nat.min_eq_left hj] at hvl
          have hp : (10 : Nat) ^ j ≤ 10000000000000000 := Nat.le_trans (Nat.pow_le_pow_right (by omega) (show j ≤ 16 by omega)) (by decide)
          have hv8 : valL 0 (s.data.toList.take j) ≤ 10000000000000000 := by omega
          by_cases hjt : j < s.size
          · have hjl : j < s.data.toList.length := by rw [E3.out]; exact hjt
            have hx := fun w => run_at s j hjt w
            have hge : s[j] = s.data.toList[j] := by rw [Array.getElem_toList]; rfl
            rw [hge] at hx
            have hvt := valL_take hjl
            have hallt : isDg (s.data.toList[j]) = true → (s.data.toList.take (j + 1)).all isDg = true := allL_take hjl hall
            have hmem : s.data.toList[j] ∈ s.data.toList := List.getElem_mem _
            obtain ⟨c, hc⟩ : ∃ c, s.data.toList[j] = c := ⟨_, rfl⟩
            rw [hc] at hx hvt hallt hmem
            obtain ⟨V, hV⟩ : ∃ V, valL 0 (s.data.toList.take j) = V := ⟨_, rfl⟩
            rw [hV] at hvt hv8 ⊢
            have hi2 : (j : Int) < (s.size : Int) := by omega
            clear hvl hp hV hc hge
            cases hdg : isDg c with
            | true =>
              have hb : 48 ≤ c.toNat ∧ c.toNat ≤ 57 := by simpa [isDg] using hdg
              have hall2 := hallt hdg
              have hd3 : decide ((c.toNat : Int) < 48) = false := by simp; omega
              have hd4 : decide ((c.toNat : Int) > 57) = false := by simp; omega
              obtain ⟨d, hd⟩ : ∃ d : Nat, c.toNat = 48 + d := ⟨c.toNat - 48, by omega⟩
              have e2 : (c.toNat : Int) - 48 = (d : Int) := by omega
              have hvt2 : valL 0 (s.data.toList.take (j + 1)) = 10 * V + d := by rw [hvt]; omega
              have hd9 : d ≤ 9 := by omega
              have HV := Lib.hid hvt2
              have HA := Lib.hid hall2
              clear hvt hvt2 hallt hall2 hall hd hb hdg hmem
              go_wp2_with fail
              go_roundw
              case rel => exact ⟨j + 1, by omega, by go_num, by rw [HV.out]; simp, HA.out, by first | rfl | trivial⟩
              case measure => simp [intOf]; omega
            | false =>
              have hno := HFAIL.out fun h => by
                have := List.all_eq_true.1 h.2.2 c hmem
                rw [hdg] at this
                cases this
              have HNO := Lib.hid hno
              have hb : ¬ (48 ≤ c.toNat ∧ c.toNat ≤ 57) := fun h => by
                have : isDg c = true := by simpa [isDg] using h
                rw [hdg] at this
                cases this
              clear hvt hallt hall hdg hmem hno
              by_cases h48 : c.toNat < 48
              · have hd3 : decide ((c.toNat : Int) < 48) = true := by simp; omega
                go_wp2_with fail
                go_ret2
                exact ⟨⟨0, false, rfl, by rw [HNO.out]⟩, Chg.refl _ _⟩
              · have hd3 : decide ((c.toNat : Int) < 48) = false := by simp; omega
                have hd4 : decide ((c.toNat : Int) > 57) = true := by simp; omega
                go_wp2_with fail
                go_ret2
                exact ⟨⟨0, false, rfl, by rw [HNO.out]⟩, Chg.refl _ _⟩
          · obtain rfl : j = s.size := by omega
            rw [List.take_of_length_le (by rw [E3.out]; exact Nat.le_refl _)] at hall hvl hv8 ⊢
            have hnv := HVAL.out hm1 hm2 hall
            obtain ⟨V, hV⟩ : ∃ V, valL 0 s.data.toList = V := ⟨_, rfl⟩
            rw [hV] at hnv hv8 ⊢
            have hdec := fun w => r3_decimal (((V : Nat) : Int)) (by omega) (by omega) w
            obtain ⟨f, hf⟩ : ∃ f : ByteArray, (⟨(Lib.itoa (((V : Nat) : Int))).toArray⟩ : ByteArray) = f := ⟨_, rfl⟩
            have hfl : Lib.itoa (((V : Nat) : Int)) = f.data.toList := by rw [← hf]
            rw [hfl] at hnv
            simp only [hf] at hdec
            have htest := ba_test f s
            have HDEC := Lib.hid hdec
            have HNV := Lib.hid hnv
            clear hdec hf hfl hall hvl hp hV hnv
            by_cases hfs : f = s
            · rw [decide_eq_true hfs] at htest
              by_cases hr1 : (((V : Nat) : Int) : Int) > 9007199254740992
              · have hno : numV s.data.toList = none := by rw [HNV.out, if_neg (fun h => by unfold maxN at h; omega)]
                have HNO := Lib.hid hno
                have hg1 : decide ((((V : Nat) : Int) : Int) > 9007199254740992) = true := by simp <;> omega
                clear hno hfs hr1
                go_wp2_with fail
                refine (HDEC.out _).mono ?_
                rintro e w3 ⟨rfl, hc3⟩
                have HC3 := Lib.hid hc3
                clear hc3
                go_wp2_with fail
                go_ret2
                exact ⟨⟨0, false, rfl, by rw [HNO.out]⟩, HC3.out⟩
              · have hg1 : decide ((((V : Nat) : Int) : Int) > 9007199254740992) = false := by simp <;> omega
                by_cases hr2 : (((V : Nat) : Int) : Int) < -9007199254740992
                · exact absurd hr2 (by omega)
                · have hg2 : decide ((((V : Nat) : Int) : Int) < -9007199254740992) = false := by simp <;> omega
                  have hyes : numV s.data.toList = some (((V : Nat) : Int)) := by rw [HNV.out, if_pos ⟨by rw [hfs], by unfold maxN; omega, by unfold maxN; omega⟩]
                  have HYES := Lib.hid hyes
                  clear hyes hfs hr1 hr2
                  go_wp2_with fail
                  refine (HDEC.out _).mono ?_
                  rintro e w3 ⟨rfl, hc3⟩
                  have HC3 := Lib.hid hc3
                  clear hc3
                  go_wp2_with fail
                  go_ret2
                  exact ⟨⟨((V : Nat) : Int), true, rfl, by rw [HYES.out]; first | exact ⟨rfl, rfl⟩ | (simp; done)⟩, HC3.out⟩
            · have hno : numV s.data.toList = none := by rw [HNV.out, if_neg (fun h => hfs (ba_eq h.1))]
              rw [decide_eq_false hfs] at htest
              have HNO := Lib.hid hno
              clear hno hfs
              go_wp2_with fail
              refine (HDEC.out _).mono ?_
              rintro e w3 ⟨rfl, hc3⟩
              have HC3 := Lib.hid hc3
              clear hc3
              go_wp2_with fail
              go_ret2
              exact ⟨⟨0, false, rfl, by rw [HNO.out]⟩, HC3.out⟩
end Go.Proofs.YtihkackkbdnagaaDoor
