/-
  The program's reader of patterns: word, number.
-/
import Derived.Test.YtjloddlkleileaaGreatDoorPatA
namespace Go.Proofs.YtjloddlkleileaaGreatDoor
open Go.RowKit
set_option linter.unusedVariables false
set_option linter.unusedSimpArgs false

theorem pa_at_eq {s : ByteArray} {k : Nat} {c : UInt8} {R : List UInt8} (h : s.data.toList.drop k = c :: R) : pa_at s k = (c.toNat : Int) ∧ k < s.size ∧ s.data.toList.drop (k + 1) = R := by
  have hk : s.data.toList[k]? = some c := by
    have := congrArg (fun l => l[0]?) h
    simpa using this
  refine ⟨by unfold pa_at; rw [List.getD_eq_getElem?_getD, hk]; rfl, ?_, ?_⟩
  · obtain ⟨h1, _⟩ := List.getElem?_eq_some_iff.1 hk
    rwa [pa_len] at h1
  · rw [← List.drop_drop, h]; rfl
def ofW : PRes Unit → (Value × Nat) ⊕ Int := PRes.map fun _ => .tuple #[]
set_option maxRecDepth 100000 in
set_option maxHeartbeats 2000000 in
theorem pa_word (r : Nat) (s t : ByteArray) (l : List UInt8) (ht : t.data.toList = l) (k : Nat) (hk : k ≤ s.size) (hs : s.size ≤ 4096) (hts : t.size ≤ 4096) (w : World) (hR : PRd w r s k) :
    Calls Tryz.prog 251 #[.pointer (some ⟨r, 0, none⟩), .string t] w (PPost w r s (ofW (wordV s.data.toList l k))) := by
  have ho := fun k' a hk' W hW => pa_one r s k' a a _ _ rfl rfl hk' hs W hW
  have HO := Lib.hid ho
  have HR := Lib.hid hR
  have HT := Lib.hid ht
  clear ho hR ht
  go_enter Tryz.func251, Tryz.ntmps251
  go_wp2_with fail
  go_loopw [7] (fun u wr => ∃ i j : Nat, u = .int .i64 (i : Int) ∧ i ≤ t.size ∧ wordV s.data.toList l k = wordV s.data.toList (t.data.toList.drop i) j ∧ j ≤ s.size ∧ PRd wr r s j ∧ Chg (fun k => k = r) w wr) (fun u _ => t.size - (intOf u).toNat)
  case atStart => exact ⟨0, k, rfl, Nat.zero_le _, by rw [List.drop_zero, HT.out], hk, HR.out, Chg.refl _ _⟩
  case round =>
    obtain ⟨i, j, rfl, hi, hw, hj, hR, hc⟩ := hrel
    have HR2 := Lib.hid hR
    have HC := Lib.hid hc
    have HW := Lib.hid hw
    clear hR hc hw
    clear HR
    by_cases hlt : i < t.size
    · obtain ⟨c, hd⟩ : ∃ c, t.data.toList.drop i = c :: t.data.toList.drop (i + 1) := by
        have h := hlt
        rw [← pa_len] at h
        exact ⟨_, List.drop_eq_getElem_cons h⟩
      obtain ⟨he, _, _⟩ := pa_at_eq hd
      have hx := fun W => pa_sat t i hlt W
      rw [he] at hx
      have hc1 := HO.out j c hj
      have q : decide ((i : Int) < (t.size : Int)) = true := by simp; omega
      have hw2 : wordV s.data.toList l k = (oneV s.data.toList j c c).bind fun _ j => wordV s.data.toList (t.data.toList.drop (i + 1)) j := by rw [HW.out, hd, wordV]
      have HC1 := Lib.hid hc1
      have HW2 := Lib.hid hw2
      clear hc1 hw2
      clear HW hd he
      go_wp2_with fail
      go_still_tail 7, (by kernel_rfl)
      change wpList _ _ _ _ _ wr.drew
      generalize hw4 : wr.drew = w4
      have hR4 : PRd w4 r s j := by rw [← hw4]; exact HR2.out.drewN 1
      have hc4 : Chg (fun k => k = r) w w4 := by rw [← hw4]; exact HC.out.drew
      have HR4 := Lib.hid hR4
      have HC4 := Lib.hid hc4
      clear hR4 hc4
      clear hw4 HC HR2
      go_wp2_with fail
      refine (HC1.out w4 HR4.out).mono ?_
      intro e w5 h5
      cases hv : oneV s.data.toList j c c with
      | inr d =>
        rw [hv] at h5 HW2
        obtain ⟨⟨n, rfl⟩, h6⟩ := h5
        go_wp2_with fail
        refine ⟨rfl, ?_⟩
        rw [HW2.out]
        exact ⟨⟨_, rfl⟩, HC4.out.then h6⟩
      | inl x =>
        obtain ⟨b, j2⟩ := x
        rw [hv] at h5 HW2
        obtain ⟨rfl, hR5, hj5, h6⟩ := h5
        have hi1 := IntWalk.i64_in ((i : Int) + 1) (by omega)
        have hc5 := HC4.out.then h6
        have HR5 := Lib.hid hR5
        have HC5 := Lib.hid hc5
        clear hR5 hc5
        clear h6 hv
        go_wp2_with fail
        exact ⟨⟨i + 1, j2, by simp [hi1], by omega, HW2.out, hj5, HR5.out, HC5.out⟩, by simp [intOf, hi1]; omega⟩
    · have q : decide ((i : Int) < (t.size : Int)) = false := by simp; omega
      have hw3 : wordV s.data.toList l k = .inl ((), j) := by rw [HW.out, List.drop_eq_nil_of_le (by rw [pa_len]; omega), wordV]
      have HW3 := Lib.hid hw3
      clear hw3
      clear HW
      go_wp2_with fail
      go_end0
      rw [HW3.out]
      exact ⟨rfl, HR2.out, hj, HC.out⟩
theorem digitsV_le {s : List UInt8} {m : Nat} {n : Int} {k : Nat} (h : k ≤ s.length) : (digitsV s m n k).2 ≤ s.length := by
  induction m generalizing n k with
  | zero => exact h
  | succ m ih =>
    rw [digitsV]
    split
    · rename_i hb
      refine ih ?_
      unfold isB at hb
      split at hb
      · rename_i c hc
        obtain ⟨h1, _⟩ := List.getElem?_eq_some_iff.1 hc
        omega
      · cases hb
    · exact h
def ofN : PRes Int → (Value × Nat) ⊕ Int := PRes.map fun n => .int .i64 n
/-- More digits behind a number of d digits. -/
def moreP (s : List UInt8) (d : Nat) (v : Int) (j : Nat) : Int × Nat := if v = 0 then (0, j) else digitsV s (9 - d) v j
theorem moreP_end {s : List UInt8} {d : Nat} {v : Int} {j : Nat} (h : v = 0 ∨ d = 9 ∨ isB s j 48 57 = false) : moreP s d v j = (v, j) := by
  unfold moreP
  by_cases hv : v = 0
  · rw [if_pos hv, hv]
  · rw [if_neg hv]
    rcases h with h | rfl | h
    · exact absurd h hv
    · rfl
    · cases hm : 9 - d with
      | zero => rfl
      | succ m => rw [digitsV, if_neg (by rw [h]; decide)]
theorem moreP_step {s : List UInt8} {d : Nat} {v : Int} {j : Nat} (h0 : 0 < v) (hd : d < 9) (h : isB s j 48 57 = true) : moreP s d v j = moreP s (d + 1) (10 * v + ((s.getD j 0).toNat - 48 : Int)) (j + 1) := by
  have h1 : 48 ≤ ((s.getD j 0).toNat : Int) := by
    unfold isB at h
    rw [List.getD_eq_getElem?_getD]
    split at h
    · rename_i c hc
      rw [hc, Option.getD_some]
      simp only [Bool.and_eq_true, decide_eq_true_eq, UInt8.le_iff_toNat_le] at h
      have : (48 : UInt8).toNat = 48 := rfl
      omega
    · cases h
  unfold moreP
  rw [if_neg (by omega), if_neg (by omega), show 9 - d = (9 - (d + 1)) + 1 from by omega, digitsV, if_pos h]
def pow10 (d : Nat) : Int := 10 ^ d
theorem pow10_le {d : Nat} (h : d ≤ 9) : pow10 d ≤ 1000000000 := by
  unfold pow10
  have : (10 : Nat) ^ d ≤ 10 ^ 9 := Nat.pow_le_pow_right (by decide) h
  have e : ((10 ^ d : Nat) : Int) = (10 : Int) ^ d := by simp
  rw [← e]
  omega
theorem pow10_succ (d : Nat) : pow10 (d + 1) = 10 * pow10 d := by unfold pow10; rw [Int.pow_succ]; omega
set_option maxRecDepth 100000 in
set_option maxHeartbeats 4000000 in
theorem pa_number (r : Nat) (s : ByteArray) (k : Nat) (a : UInt8) (x : Int) (hx : x = (a.toNat : Int)) (ha : 48 ≤ a.toNat) (hk : k ≤ s.size) (hs : s.size ≤ 4096) (w : World) (hR : PRd w r s k) :
    Calls Tryz.prog 255 #[.pointer (some ⟨r, 0, none⟩), .int .u8 x] w (PPost w r s (ofN (numberP s.data.toList k a))) := by
  have ho := pa_one r s k a 57 x 57 hx rfl hk hs w hR
  have ho2 := fun k' hk' W hW => pa_one r s k' 48 57 48 57 rfl rfl hk' hs W hW
  have hp := fun k' hk' W hW => pa_peek r s k' hk' W hW
  have hc0 : ∀ c j, oneV s.data.toList k a 57 = .inl (c, j) → 48 ≤ (c.toNat : Int) ∧ (c.toNat : Int) ≤ 57 := fun c j h => by
    unfold oneV at h
    split at h
    · rename_i hb
      injection h with h
      injection h with e1 _
      have := isB_yes hb
      unfold pa_at at this
      rw [e1] at this
      have : (57 : UInt8).toNat = 57 := rfl
      omega
    · cases h
  have HO := Lib.hid ho
  have HO2 := Lib.hid ho2
  have HP := Lib.hid hp
  clear ho ho2 hp
  clear hR hx
  cases hv : oneV s.data.toList k a 57 with
  | inr d =>
    rw [hv] at HO
    have he : numberP s.data.toList k a = .inr d := by unfold numberP; rw [hv]; rfl
    rw [he]
    clear he hv hc0
    go_enter Tryz.func255, Tryz.ntmps255
    go_wp2_with fail
    refine HO.out.mono ?_
    intro e w1 h1
    obtain ⟨⟨n, rfl⟩, h6⟩ := h1
    have H6 := Lib.hid h6
    clear h6
    go_wp2_with fail
    exact ⟨rfl, ⟨_, rfl⟩, H6.out⟩
  | inl y =>
    obtain ⟨c, j⟩ := y
    rw [hv] at HO
    obtain ⟨hc1, hc2⟩ := hc0 c j hv
    have he : numberP s.data.toList k a = .inl (moreP s.data.toList 1 ((c.toNat : Int) - 48) j) := by
      unfold numberP moreP
      rw [hv]
      show (if c = 48 then _ else _) = _
      by_cases h : c = 48
      · subst h; rfl
      · have : c.toNat ≠ 48 := fun e => h (UInt8.toNat_inj.1 e)
        rw [if_neg h, if_neg (by omega)]
    obtain ⟨M, hM⟩ : ∃ M, M = moreP s.data.toList 1 ((c.toNat : Int) - 48) j := ⟨_, rfl⟩
    rw [he, ← hM]
    have HM := Lib.hid hM
    clear hM
    clear he hv hc0
    go_enter Tryz.func255, Tryz.ntmps255
    go_wp2_with fail
    refine HO.out.mono ?_
    intro e w1 h1
    obtain ⟨rfl, hR, hj, hc⟩ := h1
    have HR := Lib.hid hR
    have HC := Lib.hid hc
    clear hR hc
    clear HO
    go_wp2_with fail
    go_loopw [5, 6] (fun u v wr => ∃ (n : Int) (d j : Nat), u = .int .i64 n ∧ v = .int .i64 (d : Int) ∧ 1 ≤ d ∧ d ≤ 9 ∧ 0 ≤ n ∧ n < pow10 d ∧ M = moreP s.data.toList d n j ∧ j ≤ s.size ∧ PRd wr r s j ∧ Chg (fun k => k = r) w wr) (fun _ v _ => 10 - (intOf v).toNat)
    case atStart => exact ⟨(c.toNat : Int) - 48, 1, j, by first | rfl | simp, by rfl, by omega, by omega, by omega, by show _ < (10 : Int); omega, HM.out, hj, HR.out, HC.out⟩
    case round =>
      clear HR HC HM hc1 hc2 hj
      obtain ⟨n, d, j, rfl, rfl, hd1, hd9, hn0, hn1, hM, hj, hR, hc⟩ := hrel
      have hp9 := pow10_le hd9
      have hnb : n < 1000000000 := by omega
      have hp1 := hp9
      have HM := Lib.hid hM
      have HN1 := Lib.hid hn1
      have HR := Lib.hid hR
      have HC := Lib.hid hc
      clear hM hn1 hR hc
      clear hp1
      have last : ∀ (W : World), PRd W r s j → Chg (fun k => k = r) w W → (n = 0 ∨ d = 9 ∨ isB s.data.toList j 48 57 = false) → PPost w r s (ofN (.inl M)) (.returned (.int .i64 n)) W := fun W h1 h2 h3 => by
        rw [HM.out, moreP_end h3]
        exact ⟨rfl, h1, hj, h2⟩
      have LAST := Lib.hid last
      clear last
      by_cases h0 : n = 0
      · have q : decide (n > 0) = false := by simp; omega
        have hl := LAST.out wr HR.out HC.out (.inl h0)
        have HL := Lib.hid hl
        clear hl
        clear h0 LAST
        go_wp2_with fail
        go_ret
        exact HL.out
      · have q : decide (n > 0) = true := by simp; omega
        by_cases h9 : d = 9
        · have hl := LAST.out wr HR.out HC.out (.inr (.inl h9))
          have q2 : decide ((d : Int) < 9) = false := by simp; omega
          have HL := Lib.hid hl
          clear hl
          clear h9 h0 LAST
          go_wp2_with fail
          go_ret
          exact HL.out
        · have q2 : decide ((d : Int) < 9) = true := by simp; omega
          have hd8 : d < 9 := by omega
          have hpk := HP.out j hj wr HR.out
          have HPK := Lib.hid hpk
          clear hpk
          cases hb : isB s.data.toList j 48 57 with
          | true =>
            obtain ⟨b1, b2, b3⟩ := isB_yes hb
            have e48 : (48 : UInt8).toNat = 48 := rfl
            have e57 : (57 : UInt8).toNat = 57 := rfl
            rw [e48] at b2
            rw [e57] at b3
            have q3 : decide (pa_at s j ≥ 48) = true := by simp; omega
            have q4 : decide (pa_at s j ≤ 57) = true := by simp; omega
            have hone : oneV s.data.toList j 48 57 = .inl (s.data.toList.getD j 0, j + 1) := by unfold oneV; rw [if_pos hb]
            have hst := moreP_step (s := s.data.toList) (d := d) (v := n) (j := j) (by omega) (by omega) hb
            have hv : ((s.data.toList.getD j 0).toNat : Int) = pa_at s j := rfl
            rw [hv] at hst
            have hlt : 10 * n + (pa_at s j - 48) < pow10 (d + 1) := by rw [pow10_succ]; have := HN1.out; omega
            have hi := IntWalk.i64_in ((d : Int) + 1) (by omega)
            have HST := Lib.hid hst
            have HONE := Lib.hid hone
            have HLT := Lib.hid hlt
            clear hst hone hlt
            clear h0 h9 hb e48 e57 hv LAST hp9
            go_wp2_with fail
            refine HPK.out.mono ?_
            rintro e w1 ⟨rfl, nq, hw⟩
            have hR1 : PRd w1 r s j := by rw [← hw]; exact HR.out.drewN _
            have hc1 : Chg (fun k => k = r) w w1 := by rw [← hw]; exact HC.out.drewN _
            have HR1 := Lib.hid hR1
            have HC1 := Lib.hid hc1
            clear hR1 hc1
            clear hw HPK
            go_wp2_with fail
            refine (HP.out j hj w1 HR1.out).mono ?_
            rintro e w2 ⟨rfl, nq, hw⟩
            have hR2 : PRd w2 r s j := by rw [← hw]; exact HR1.out.drewN _
            have hc2 : Chg (fun k => k = r) w w2 := by rw [← hw]; exact HC1.out.drewN _
            have HR2 := Lib.hid hR2
            have HC2 := Lib.hid hc2
            clear hR2 hc2
            clear hw HR1 HC1 HR HC
            go_wp2_with fail
            refine (HO2.out j hj w2 HR2.out).mono ?_
            intro e w3 h3
            rw [HONE.out] at h3
            obtain ⟨rfl, hR3, hj3, h6⟩ := h3
            have hc3 := HC2.out.then h6
            have HR3 := Lib.hid hR3
            have HC3 := Lib.hid hc3
            clear hR3 hc3
            clear h6 HR2 HC2
            have hbv : bV (s.data.toList.getD j 0) = .int .u8 (pa_at s j) := rfl
            rw [hbv]
            clear hbv
            go_wp2_with fail
            exact ⟨⟨_, d + 1, j + 1, rfl, by simp [hi], by omega, by omega, by omega, HLT.out, by rw [HM.out]; exact HST.out, hj3, HR3.out, HC3.out⟩, by simp [intOf, hi]; omega⟩
          | false =>
            have hq : decide (pa_at s j ≥ 48) = false ∨ (decide (pa_at s j ≥ 48) = true ∧ decide (pa_at s j ≤ 57) = false) := by
              have := isB_no hb
              have e48 : (48 : UInt8).toNat = 48 := rfl
              have e57 : (57 : UInt8).toNat = 57 := rfl
              rw [e48, e57] at this
              have h4 : s.size ≤ j → pa_at s j = 0 := fun h => by unfold pa_at; rw [List.getD_eq_getElem?_getD, List.getElem?_eq_none (by rw [pa_len]; exact h)]; rfl
              simp only [decide_eq_true_eq, decide_eq_false_iff_not]
              omega
            have hl := fun W h1 h2 => LAST.out W h1 h2 (.inr (.inr hb))
            have HL := Lib.hid hl
            clear hl
            clear h0 h9 hb LAST
            rcases hq with q3 | ⟨q3, q4⟩
            · go_wp2_with fail
              refine HPK.out.mono ?_
              rintro e w1 ⟨rfl, nq, hw⟩
              have hl1 := HL.out w1 (by rw [← hw]; exact HR.out.drewN _) (by rw [← hw]; exact HC.out.drewN _)
              have HL1 := Lib.hid hl1
              clear hl1
              clear hw
              go_wp2_with fail
              go_ret
              exact HL1.out
            · go_wp2_with fail
              refine HPK.out.mono ?_
              rintro e w1 ⟨rfl, nq, hw⟩
              have hR1 : PRd w1 r s j := by rw [← hw]; exact HR.out.drewN _
              have hc1 : Chg (fun k => k = r) w w1 := by rw [← hw]; exact HC.out.drewN _
              have HR1 := Lib.hid hR1
              have HC1 := Lib.hid hc1
              clear hR1 hc1
              clear hw HPK
              go_wp2_with fail
              refine (HP.out j hj w1 HR1.out).mono ?_
              rintro e w2 ⟨rfl, nq, hw⟩
              have hl1 := HL.out w2 (by rw [← hw]; exact HR1.out.drewN _) (by rw [← hw]; exact HC1.out.drewN _)
              have HL1 := Lib.hid hl1
              clear hl1
              clear hw
              go_wp2_with fail
              go_ret
              exact HL1.out
end Go.Proofs.YtjloddlkleileaaGreatDoor
