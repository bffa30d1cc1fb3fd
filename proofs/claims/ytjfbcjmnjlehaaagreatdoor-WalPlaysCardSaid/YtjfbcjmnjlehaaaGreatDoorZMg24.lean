/-
  The document's frame: All.
  Names of files: the document's Number; the walk of WalNames.
  The document's disk: what it looks like in memory.
-/
import Derived.Test.YtjfbcjmnjlehaaaGreatDoorZRfrB
import Derived.Test.YtjfbcjmnjlehaaaGreatDoorZMg13
import Derived.Test.YtjfbcjmnjlehaaaGreatDoorZMg21
import Derived.Test.YtjfbcjmnjlehaaaGreatDoorZMg14
namespace Go.Proofs.YtjfbcjmnjlehaaaGreatDoor
open Go.RowKit
set_option linter.unusedVariables false
set_option linter.unusedSimpArgs false

set_option maxRecDepth 100000 in
set_option maxHeartbeats 2000000 in
theorem rf_all (s : ByteArray) (w : World) (hs : s.size ≤ 1000000000) : Calls Tryz.prog 48 #[.string s] w (AllPost w s) := by
  have hg := fun k (hk : k ≤ s.size) w => rf_get s k w hs hk
  have HG := Lib.hid hg
  clear hg
  go_enter Tryz.func48, Tryz.ntmps48
  go_wp2_with fail
  go_loopw [5, 6] (fun v i wr => ∃ (k : Nat) (l : List ByteArray), k ≤ s.size ∧ i = .int .i64 k ∧ Lst strC wr v l ∧ l.length ≤ k ∧ (∀ j, v.ownBlock = some j → w.heap.size ≤ j) ∧ allF s.data.toList = (bl l ++ (allF (s.data.toList.drop k)).1, (allF (s.data.toList.drop k)).2) ∧ Chg (fun _ => False) w wr) (fun _ i _ => s.size + 1 - (intOf i).toNat)
  case atStart => exact ⟨0, [], by omega, rfl, Lst.nil _ _, by simp, by simp [Value.ownBlock], by simp [bl], Chg.refl _ _⟩
  case round =>
    obtain ⟨k, l, hk, rfl, hL, hlk, hown, hall, hcr⟩ := hrel
    obtain ⟨la, lc, rfl, h1, h2, _⟩ := str_form hL
    have HL := Lib.hid hL
    have HALL := Lib.hid hall
    have HOWN := Lib.hid hown
    have HCR := Lib.hid hcr
    obtain ⟨wq, rfl⟩ : ∃ wq : World, wq = wr := ⟨_, rfl⟩
    clear hL hall hown hcr
    have hk2 : decide ((k : Int) ≤ (s.size : Int)) = true := by simp; omega
    go_wp2_with fail
    refine (HG.out k hk _).mono ?_
    rintro e w1 (⟨b, h0, hb, rfl, hc1⟩ | ⟨hne, rfl, hc1⟩)
    · have hz := getF_zero h0
      rw [List.length_drop, Array.length_toList] at hz
      have hsz : s.data.size = s.size := rfl
      rw [hsz] at hz
      obtain ⟨m, hm⟩ : ∃ m, 8 + fraN (s.data.toList.drop k) = m := ⟨_, rfl⟩
      have hall2 : allF s.data.toList = (bl (l ++ [b]) ++ (allF (s.data.toList.drop (k + m))).1, (allF (s.data.toList.drop (k + m))).2) := by
        rw [HALL.out, allF_yes h0, ← hb, hm, List.drop_drop]
        simp [bl]
      rw [hm] at hz ⊢
      obtain ⟨_, hz2, _, _⟩ := hz
      have hm8 : 8 ≤ m := by omega
      have hL1 := HL.out.same (hc1.then ((Chg.refl _ w1).alloc (.cells #[.string b] 9)))
      have hbk : Blk (w1.alloc (.cells #[.string b] 9)) w1.heap.size 9 #[.string b] := Blk.new _ _ _
      have hs1 : w.heap.size ≤ w1.heap.size := (HCR.out.then hc1).size
      have HL1 := Lib.hid hL1
      have HBK := Lib.hid hbk
      have HA2 := Lib.hid hall2
      have HM := Lib.hid hm
      have HC1 := Lib.hid hc1
      clear hL1 hbk hall2 hm hc1 h0 hb hsz hk2
      go_wp2_with (at_builtin; refine wpList_lst_app strOk _ (by rfl) _ _ (by rfl) l (.slice la l.length lc) b (by rfl) HL1.out w1.heap.size (by rfl) (by omega) HBK.out ?_)
      intro v' w2 hO hc2 hk2
      obtain ⟨xa, xc, ex, _⟩ := str_form hO
      subst ex
      have hcw : Chg (fun _ => False) w w2 := by
        refine ((HCR.out.then HC1.out).alloc _).trans hc2 fun j hj e => ?_
        have := HOWN.out j e
        omega
      have hown2 : ∀ j, (Value.slice xa (l ++ [b]).length xc).ownBlock = some j → w.heap.size ≤ j := fun j e => by
        rcases hk2 j e with h | h
        · exact HOWN.out j h
        · omega
      have HO := Lib.hid hO
      have HCW := Lib.hid hcw
      have HOW2 := Lib.hid hown2
      clear hO hc2 hk2 hcw hown2
      go_wp2_with fail
      refine ⟨⟨k + m, l ++ [b], by omega, rfl, HO.out, by simp; omega, HOW2.out, HA2.out, HCW.out⟩, by simp [intOf]; omega⟩
    · have he : allF (s.data.toList.drop k) = ([], getF (s.data.toList.drop k)) := allF_no hne
      obtain ⟨g, hg⟩ : ∃ g, getF (s.data.toList.drop k) = g := ⟨_, rfl⟩
      rw [hg] at hne he ⊢
      have hq1 : ((g : Int) != 0) = true := by simp; omega
      have hq2 : ((g : Int) == 0) = false := by simp; omega
      have HE := Lib.hid he
      have HC1 := Lib.hid hc1
      clear hg he hc1 hk2
      go_wp2_with fail
      refine bodyPost_ret (v := .tuple #[.slice la l.length lc, .int .i64 (k : Int), .int .i64 (g : Int)]) (by simp [results, Tryz.results48, go_sem]) rfl ⟨_, l, k, ?_, ?_, HL.out.same HC1.out, by omega, HCR.out.then HC1.out⟩
      · rw [HALL.out, HE.out]
      · rw [HALL.out, HE.out]
        simp
end Go.Proofs.YtjfbcjmnjlehaaaGreatDoor
namespace Go.Proofs.YtjfbcjmnjlehaaaGreatDoor
open Go.RowKit Go.Shelf
set_option linter.unusedVariables false
set_option linter.unusedSimpArgs false

theorem numL_no {k s : List UInt8} (h : ¬ (s.length = k.length + 9 ∧ (s.drop (k.length + 1)).all isDig = true ∧ fileL k (valFrom 0 (s.drop (k.length + 1)) : Nat) = s)) : numL k s = (0, false) := by
  unfold numL
  rw [if_neg h]
theorem val_take {l : List UInt8} {j : Nat} (h : j < l.length) : valFrom 0 (l.take (j + 1)) = 10 * valFrom 0 (l.take j) + (l[j].toNat - 48) := by
  rw [List.take_succ_eq_append_getElem h, val_append]
  rfl
theorem all_take {l : List UInt8} {j : Nat} (h : j < l.length) (h1 : (l.take j).all isDig = true) (h2 : isDig l[j] = true) : (l.take (j + 1)).all isDig = true := by
  rw [List.take_succ_eq_append_getElem h, List.all_append, h1]
  simp [h2]
set_option maxRecDepth 100000 in
set_option maxHeartbeats 2000000 in
theorem rf_number (k s : ByteArray) (hk : k.size ≤ 140737488351232) (hs : s.size ≤ 140737488351232) (w : World) : Calls Tryz.prog 6 #[.string k, .string s] w (NumPost w k s) := by
  have hkl : k.data.toList.length = k.size := by rw [Array.length_toList]; rfl
  have hsl : s.data.toList.length = s.size := by rw [Array.length_toList]; rfl
  have hnum : ∀ x b, numL k.data.toList s.data.toList = (x, b) → (Calls Tryz.prog 6 #[.string k, .string s] w fun e w' => e = .returned (.tuple #[.int .i64 x, .bool b]) ∧ Chg (fun _ => False) w w') → Calls Tryz.prog 6 #[.string k, .string s] w (NumPost w k s) := by
    intro x b h hc
    unfold NumPost
    rw [h]
    exact hc
  by_cases hz : s.size = k.size + 9
  · have hfile := fun v h0 h1 w => rf_file k v hk h0 h1 w
    obtain ⟨D, hD⟩ : ∃ D, s.data.toList.drop (k.size + 1) = D := ⟨_, rfl⟩
    have hDl : D.length = 8 := by rw [← hD, List.length_drop, hsl]; omega
    have hat : ∀ j (h : j < D.length) (h2 : k.size + 1 + j < s.size), s[k.size + 1 + j] = D[j] := fun j h h2 => by
      subst hD
      rw [List.getElem_drop, Array.getElem_toList]
      rfl
    obtain ⟨xb, hxb⟩ : ∃ xb, numL k.data.toList s.data.toList = xb := ⟨_, rfl⟩
    obtain ⟨x, b⟩ := xb
    refine hnum x b hxb ?_
    have hz1 : ((s.size : Int) == (k.size : Int) + 9) = true := by rw [beq_iff_eq]; omega
    have HXB := Lib.hid hxb
    have HF := Lib.hid hfile
    have HD := Lib.hid hD
    have HAT := Lib.hid hat
    have HKL := Lib.hid hkl
    have HSL := Lib.hid hsl
    have HZ := Lib.hid hz
    clear hnum hxb hfile hD hat hkl hsl
    go_enter Tryz.func6, Tryz.ntmps6
    go_wp2_with fail
    go_loopw [7, 8] (fun n i wr => ∃ j : Nat, j ≤ 8 ∧ i = .int .i64 (((k.size + 1 + j : Nat) : Int)) ∧ n = .int .i64 ((valFrom 0 (D.take j) : Nat) : Int) ∧ (D.take j).all isDig = true ∧ w = wr) (fun _ i _ => k.size + 10 - (intOf i).toNat)
    case atStart => exact ⟨0, by omega, by simp, rfl, rfl, rfl⟩
    case round =>
      obtain ⟨j, hj, rfl, rfl, hall, rfl⟩ := hrel
      have hvl := val_lt (D.take j) 0 hall
      rw [List.length_take, hDl, Nat.min_eq_left hj] at hvl
      have hp : (10 : Nat) ^ j ≤ 100000000 := Nat.le_trans (Nat.pow_le_pow_right (by omega) hj) (by decide)
      have hv8 : valFrom 0 (D.take j) ≤ 100000000 := by omega
      obtain ⟨i, hi⟩ : ∃ i, k.size + 1 + j = i := ⟨_, rfl⟩
      by_cases hj8 : j < 8
      · have hx := fun w => run_at s (k.size + 1 + j) (by omega) w
        rw [HAT.out j (by omega) (by omega)] at hx
        have hvt := val_take (l := D) (j := j) (by omega)
        have hjD : j < D.length := by omega
        have hallt : isDig D[j] = true → (D.take (j + 1)).all isDig = true := all_take hjD hall
        obtain ⟨c, hc⟩ : ∃ c, D[j] = c := ⟨_, rfl⟩
        rw [hc] at hx hvt hallt
        obtain ⟨V, hV⟩ : ∃ V, valFrom 0 (D.take j) = V := ⟨_, rfl⟩
        rw [hV] at hvt hv8 ⊢
        rw [hi] at hx ⊢
        have hi1 : i < s.size := by omega
        have hi2 : (i : Int) < (s.size : Int) := by omega
        clear hvl hp hV
        cases hdg : isDig c with
        | true =>
          have hb : 48 ≤ c.toNat ∧ c.toNat ≤ 57 := by simpa [isDig] using hdg
          have hall2 := hallt hdg
          have hd3 : decide ((c.toNat : Int) < 48) = false := by simp; omega
          have hd4 : decide ((c.toNat : Int) > 57) = false := by simp; omega
          obtain ⟨d, hd⟩ : ∃ d : Nat, c.toNat = 48 + d := ⟨c.toNat - 48, by omega⟩
          have e2 : (c.toNat : Int) - 48 = (d : Int) := by omega
          have hvt2 : valFrom 0 (D.take (j + 1)) = 10 * V + d := by rw [hvt]; omega
          have hd9 : d ≤ 9 := by omega
          have HV := Lib.hid hvt2
          have HA := Lib.hid hall2
          have HI := Lib.hid hi
          clear hvt hvt2 hallt hall2 hall hc hd hb hz hi hdg
          go_wp2_with fail
          go_roundw
          case rel => exact ⟨j + 1, by omega, by rw [← HI.out]; simp; omega, by rw [HV.out]; simp, HA.out, by first | rfl | trivial⟩
          case measure => have h9 := HI.out; simp [intOf]; omega
        | false =>
          have hno := numL_no (k := k.data.toList) (s := s.data.toList) (by
            rintro ⟨_, h2, _⟩
            rw [HKL.out, HD.out] at h2
            have := List.all_eq_true.1 h2 c (by rw [← hc]; exact List.getElem_mem _)
            rw [hdg] at this
            cases this)
          rw [HXB.out] at hno
          injection hno with hx0 hb0
          subst hx0 hb0
          have hb : ¬ (48 ≤ c.toNat ∧ c.toNat ≤ 57) := fun h => by
            have : isDig c = true := by simpa [isDig] using h
            rw [hdg] at this
            cases this
          clear hvt hallt hall hc hz hi hdg
          by_cases h48 : c.toNat < 48
          · have hd3 : decide ((c.toNat : Int) < 48) = true := by simp; omega
            go_wp2_with fail
            go_ret2
            exact ⟨rfl, Chg.refl _ _⟩
          · have hd3 : decide ((c.toNat : Int) < 48) = false := by simp; omega
            have hd4 : decide ((c.toNat : Int) > 57) = true := by simp; omega
            go_wp2_with fail
            go_ret2
            exact ⟨rfl, Chg.refl _ _⟩
      · obtain rfl : j = 8 := by omega
        rw [List.take_of_length_le (by omega)] at *
        have hnl : numL k.data.toList s.data.toList = if fileL k.data.toList (valFrom 0 D : Nat) = s.data.toList then (((valFrom 0 D : Nat) : Int), true) else ((0 : Int), false) := by
          unfold numL
          rw [HKL.out, HD.out, HSL.out]
          by_cases hf : fileL k.data.toList (valFrom 0 D : Nat) = s.data.toList
          · rw [if_pos ⟨HZ.out, hall, hf⟩, if_pos hf]
          · rw [if_neg (fun h => hf h.2.2), if_neg hf]
        rw [HXB.out] at hnl
        obtain ⟨V, hV⟩ : ∃ V, valFrom 0 D = V := ⟨_, rfl⟩
        rw [hV] at hnl hv8 ⊢
        have hff := fun w => HF.out (V : Int) (by omega) (by omega) w
        obtain ⟨f, hf⟩ : ∃ f, fileB k (V : Int) = f := ⟨_, rfl⟩
        have hfl : fileL k.data.toList (V : Int) = f.data.toList := by rw [← hf]; rfl
        rw [hf] at hff
        rw [hfl] at hnl
        have htest := ba_test f s
        have hi2 : ¬ ((k.size + 1 + 8 : Nat) : Int) < (s.size : Int) := by omega
        obtain ⟨i, hi⟩ : ∃ i, k.size + 1 + 8 = i := ⟨_, rfl⟩
        rw [hi] at hi2 ⊢
        have HFF := Lib.hid hff
        clear hff hf hfl hvl hp hall hV hz hi
        by_cases hfs : f = s
        · rw [if_pos (by rw [hfs])] at hnl
          injection hnl with hx0 hb0
          subst hx0 hb0
          rw [decide_eq_true hfs] at htest
          clear hfs
          go_wp2_with fail
          refine (HFF.out _).mono ?_
          rintro e w3 ⟨rfl, hc3⟩
          have HC3 := Lib.hid hc3
          clear hc3
          go_wp2_with fail
          go_ret2
          exact ⟨rfl, HC3.out⟩
        · rw [if_neg (fun e => hfs (ba_eq e))] at hnl
          injection hnl with hx0 hb0
          subst hx0 hb0
          rw [decide_eq_false hfs] at htest
          clear hfs
          go_wp2_with fail
          refine (HFF.out _).mono ?_
          rintro e w3 ⟨rfl, hc3⟩
          have HC3 := Lib.hid hc3
          clear hc3
          go_wp2_with fail
          go_ret2
          exact ⟨rfl, HC3.out⟩
  · have hno := numL_no (k := k.data.toList) (s := s.data.toList) (by
      rintro ⟨h1, _⟩
      rw [hkl, hsl] at h1
      exact hz h1)
    refine hnum 0 false hno ?_
    have hz1 : ((s.size : Int) == (k.size : Int) + 9) = false := by rw [beq_eq_false_iff_ne]; omega
    clear hno hnum hkl hsl hz
    go_enter Tryz.func6, Tryz.ntmps6
    go_wp2_with fail
    go_ret2
    exact ⟨rfl, Chg.refl _ _⟩
/-- Name of a log, every number. -/
theorem wal_name_any (n : Int) (h0 : -9223372036854775808 ≤ n) (h1 : n ≤ 9223372036854775807) (w : World) (ht : Tab w) : Calls Tryz.prog 10 #[.int .i64 n] w fun e w' => e = .returned (.string (fileB ⟨#[108, 111, 103]⟩ n)) ∧ Chg (fun _ => False) w w' := by
  have HF := Lib.hid (wal_file ⟨#[108, 111, 103]⟩ n (by decide) h0 h1 w ht)
  clear ht
  go_enter Tryz.func10, Tryz.ntmps10
  go_wp2_with fail
  refine HF.out.mono ?_
  rintro e w1 ⟨rfl, hc1⟩
  go_wp2_with fail
  go_ret
  exact ⟨rfl, hc1⟩
set_option maxRecDepth 100000 in
set_option maxHeartbeats 2000000 in
theorem wal_names (k s : ByteArray) (n : Int) (hk : k.size ≤ 140737488351232) (hs : s.size ≤ 140737488351232) (h0 : -9223372036854775808 ≤ n) (h1 : n ≤ 9223372036854775807) (w : World) (ht : Tab w) (he : ErrOk w) :
    Calls Tryz.prog 3 #[.string k, .string s, .int .i64 n] w fun e w' => e = .returned (.bool true) ∧ Chg (fun _ => False) w w' := by
  have c1 := wal_number k s hk hs w ht he
  have c2 := fun w => rf_number k s hk hs w
  unfold NumPost at c1 c2
  obtain ⟨x, hx⟩ : ∃ x, (numL k.data.toList s.data.toList).1 = x := ⟨_, rfl⟩
  obtain ⟨b, hb⟩ : ∃ b, (numL k.data.toList s.data.toList).2 = b := ⟨_, rfl⟩
  rw [hx, hb] at c1
  simp only [hx, hb] at c2
  have c3 := fun w ht => wal_file k n hk h0 h1 w ht
  have c4 := fun w => rf_file k n hk h0 h1 w
  obtain ⟨f, hf⟩ : ∃ f, fileB k n = f := ⟨_, rfl⟩
  simp only [hf] at c3 c4
  have c5 := fun w ht => wal_name_any n h0 h1 w ht
  have c6 := fun w => rf_file ⟨#[108, 111, 103]⟩ n (by decide) h0 h1 w
  obtain ⟨g, hg⟩ : ∃ g, fileB ⟨#[108, 111, 103]⟩ n = g := ⟨_, rfl⟩
  simp only [hg] at c5 c6
  have C1 := Lib.hid c1
  have C2 := Lib.hid c2
  have C3 := Lib.hid c3
  have C4 := Lib.hid c4
  have C5 := Lib.hid c5
  have C6 := Lib.hid c6
  have HT := Lib.hid ht
  clear c1 c2 c3 c4 c5 c6 ht he hx hb hf hg
  have q1 : (f.toList == f.toList) = true := by simp
  have q2 : (g.toList == g.toList) = true := by simp
  have q3 : (x == x) = true := by simp
  have q4 : (b == b) = true := by simp
  go_enter Tryz.func3, Tryz.ntmps3
  go_wp2_with fail
  refine C1.out.mono ?_
  rintro e w1 ⟨rfl, hc1⟩
  have H1 := Lib.hid hc1
  clear hc1
  go_wp2_with fail
  refine (C2.out _).mono ?_
  rintro e w2 ⟨rfl, hc2⟩
  have H2 := Lib.hid (H1.out.then hc2)
  clear hc2
  go_wp2_with fail
  refine (wal_wakes _).mono ?_
  rintro e w3 ⟨rfl, hc3⟩
  have H3 := Lib.hid (H2.out.then hc3)
  clear hc3
  go_wp2_with fail
  refine (C3.out _ (HT.out.chg H3.out)).mono ?_
  rintro e w4 ⟨rfl, hc4⟩
  have H4 := Lib.hid (H3.out.then hc4)
  clear hc4
  go_wp2_with fail
  refine (C4.out _).mono ?_
  rintro e w5 ⟨rfl, hc5⟩
  have H5 := Lib.hid (H4.out.then hc5)
  clear hc5
  go_wp2_with fail
  refine (C5.out _ (HT.out.chg H5.out)).mono ?_
  rintro e w6 ⟨rfl, hc6⟩
  have H6 := Lib.hid (H5.out.then hc6)
  clear hc6
  go_wp2_with fail
  refine (C6.out _).mono ?_
  rintro e w7 ⟨rfl, hc7⟩
  have H7 := Lib.hid (H6.out.then hc7)
  clear hc7
  go_wp2_with fail
  go_ret
  exact ⟨by first | rfl | (simp; done) | (cases b <;> simp), H7.out⟩
end Go.Proofs.YtjfbcjmnjlehaaaGreatDoor
namespace Go.Proofs.YtjfbcjmnjlehaaaGreatDoor
open Go.RowKit
set_option linter.unusedVariables false
set_option linter.unusedSimpArgs false

/-- Names as the document has them: a number below 0 is none's. -/
abbrev RNms := List (ByteArray × Int)
def nmCells (l : RNms) : List Value := l.flatMap fun p => [.string p.1, .int .i64 p.2]
def ofNames (l : Names) : RNms := l.map fun p => (p.1, (p.2 : Int))
def ofChg (c : ByteArray × Option Nat) : ByteArray × Int := (c.1, match c.2 with | some i => (i : Int) | none => -1)
def ofStep (s : StepV) : RNms := s.map ofChg
def flCells (l : List FileV) : List Value := l.flatMap fun f => [.string f.data, .int .i64 f.lasts]
def RNm (w : World) (v : Value) (l : RNms) : Prop := Own w 104 2 v l.length (nmCells l)

structure RLay where
  fv : Value
  nv : Value
  lv : Value
  qv : Value
  cv : Value
  cn : Int
  cb : List Int
  qs : List Value
def RFt (r : Nat) (y : RLay) (k : Nat) : Prop := k = r ∨ y.fv.ownBlock = some k ∨ y.nv.ownBlock = some k ∨ y.lv.ownBlock = some k ∨ y.qv.ownBlock = some k ∨ (∃ j, blockAt y.qs j = some k) ∨ y.cv.ownBlock = some k
structure RQueue (w : World) (q : List StepV) (qv : Value) (qs : List Value) : Prop where
  own : Own w 140 1 qv q.length qs
  step : ∀ (j : Nat) (s : StepV), q[j]? = some s → ∃ v, qs[j]? = some v ∧ RNm w v (ofStep s)
/-- All but the block of the disk itself. -/
structure RParts (w : World) (D : DiskV) (y : RLay) : Prop where
  files : Own w 106 2 y.fv D.files.length (flCells D.files)
  names : RNm w y.nv (ofNames D.names)
  lasts : RNm w y.lv (ofNames D.lasts)
  queue : RQueue w D.queue y.qv y.qs
  cutb : Own w 3 1 y.cv y.cb.length (intCells y.cb)
def rCells (D : DiskV) (y : RLay) : Array Value := #[.int .i64 D.room, y.fv, y.nv, y.lv, y.qv, .bool D.off, .int .i64 D.cutL, .int .i64 y.cn, y.cv, .int .i64 D.fullL]
structure RIn (w : World) (r : Nat) (D : DiskV) (y : RLay) (M : Nat → Prop) : Prop where
  blk : Blk w r 72 (rCells D y)
  parts : RParts w D y
  cnb : (-9223372036854775808 ≤ y.cn ∧ y.cn ≤ 9223372036854775807) ∧ ∀ x ∈ y.cb, -9223372036854775808 ≤ x ∧ x ≤ 9223372036854775807
  mine : ∀ k, RFt r y k → M k
  lt : ∀ k, M k → k < w.heap.size
/-- The cut that is set is the disk's; where none is set its numbers are of no matter. -/
def CutEq (D : DiskV) (y : RLay) : Prop := D.cutL ≠ 0 → y.cn = D.cutN ∧ y.cb = D.cutB
def RAt (w : World) (r : Nat) (D : DiskV) (M : Nat → Prop) : Prop := DiskOk D ∧ ∃ y, RIn w r D y M ∧ CutEq D y
def RPost (w : World) (r : Nat) (M : Nat → Prop) (D' : DiskV) (w' : World) : Prop := RAt w' r D' (Mx M w w') ∧ Chg M w w'

section
variable {w w' w1 : World} {r : Nat} {D : DiskV} {y : RLay} {M S : Nat → Prop}
theorem RNm.chg {v : Value} {l : RNms} (h : RNm w v l) (hc : Chg S w w') (hS : ∀ k, v.ownBlock = some k → ¬ S k) : RNm w' v l := Own.chg h hc hS
theorem RNm.same {v : Value} {l : RNms} (h : RNm w v l) (hc : Chg (fun _ => False) w w') : RNm w' v l := Own.same h hc
theorem RQueue.chg {q : List StepV} {qv : Value} {qs : List Value} (h : RQueue w q qv qs) (hc : Chg S w w') (hS : ∀ k, (qv.ownBlock = some k ∨ ∃ j, blockAt qs j = some k) → ¬ S k) : RQueue w' q qv qs :=
  ⟨h.own.chg hc fun k hk => hS k (.inl hk), fun j s hs => by
    obtain ⟨v, e, ho⟩ := h.step j s hs
    exact ⟨v, e, ho.chg hc fun k hk => hS k (.inr ⟨j, blockAt_some e hk⟩)⟩⟩
theorem RQueue.lenq {q : List StepV} {qv : Value} {qs : List Value} (h : RQueue w q qv qs) : qs.length = q.length := by have := h.own.1; omega
theorem RQueue.stepTyped {q : List StepV} {qv : Value} {qs : List Value} (h : RQueue w q qv qs) {j k : Nat} (hk : blockAt qs j = some k) : ∃ cs, Blk w k 104 cs := by
  obtain ⟨v, e, hv⟩ := blockAt_inv hk
  have hl := h.lenq
  have hj : j < q.length := by rw [← hl]; exact (List.getElem?_eq_some_iff.1 e).1
  obtain ⟨v', e2, ho⟩ := h.step j _ (List.getElem?_eq_getElem hj)
  rw [e] at e2; cases e2
  exact ho.typed hv
theorem RIn.ne (h : RIn w r D y M) : (∀ k, y.fv.ownBlock = some k → k ≠ r) ∧ (∀ k, y.nv.ownBlock = some k → k ≠ r) ∧ (∀ k, y.lv.ownBlock = some k → k ≠ r) ∧ (∀ k, y.qv.ownBlock = some k → k ≠ r) ∧ (∀ j k, blockAt y.qs j = some k → k ≠ r) ∧ (∀ k, y.cv.ownBlock = some k → k ≠ r) := by
  refine ⟨fun k hk => ?_, fun k hk => ?_, fun k hk => ?_, fun k hk => ?_, fun j k hk => ?_, fun k hk => ?_⟩
  · obtain ⟨cs, hb⟩ := h.parts.files.typed hk
    exact hb.ne_ h.blk (by decide)
  · obtain ⟨cs, hb⟩ := Own.typed h.parts.names hk
    exact hb.ne_ h.blk (by decide)
  · obtain ⟨cs, hb⟩ := Own.typed h.parts.lasts hk
    exact hb.ne_ h.blk (by decide)
  · obtain ⟨cs, hb⟩ := h.parts.queue.own.typed hk
    exact hb.ne_ h.blk (by decide)
  · obtain ⟨cs, hb⟩ := h.parts.queue.stepTyped hk
    exact hb.ne_ h.blk (by decide)
  · obtain ⟨cs, hb⟩ := h.parts.cutb.typed hk
    exact hb.ne_ h.blk (by decide)
theorem RIn.chg (h : RIn w r D y M) (hc : Chg S w w') (hS : ∀ k, M k → ¬ S k) : RIn w' r D y M :=
  ⟨h.blk.chg hc (hS _ (h.mine _ (.inl rfl))),
   ⟨h.parts.files.chg hc fun k hk => hS k (h.mine k (.inr (.inl hk))), h.parts.names.chg hc fun k hk => hS k (h.mine k (.inr (.inr (.inl hk)))), h.parts.lasts.chg hc fun k hk => hS k (h.mine k (.inr (.inr (.inr (.inl hk))))),
    h.parts.queue.chg hc (fun k hk => hS k (h.mine k (by
      rcases hk with e | e
      · exact .inr (.inr (.inr (.inr (.inl e))))
      · exact .inr (.inr (.inr (.inr (.inr (.inl e)))))))),
    h.parts.cutb.chg hc fun k hk => hS k (h.mine k (.inr (.inr (.inr (.inr (.inr (.inr hk)))))))⟩, h.cnb, h.mine, fun k hk => Nat.lt_of_lt_of_le (h.lt k hk) hc.size⟩
theorem RIn.same (h : RIn w r D y M) (hc : Chg (fun _ => False) w w') : RIn w' r D y M := h.chg hc (by simp)
theorem RIn.more {N : Nat → Prop} (h : RIn w r D y M) (hMN : ∀ k, M k → N k) (hlt : ∀ k, N k → k < w.heap.size) : RIn w r D y N :=
  { h with mine := fun k hk => hMN k (h.mine k hk), lt := hlt }
theorem RAt.chg (h : RAt w r D M) (hc : Chg S w w') (hS : ∀ k, M k → ¬ S k) : RAt w' r D M := ⟨h.1, h.2.imp fun y hy => ⟨hy.1.chg hc hS, hy.2⟩⟩
theorem RAt.same (h : RAt w r D M) (hc : Chg (fun _ => False) w w') : RAt w' r D M := h.chg hc (by simp)
theorem RAt.lt (h : RAt w r D M) : ∀ k, M k → k < w.heap.size := by
  obtain ⟨_, y, hy, _⟩ := h
  exact hy.lt
theorem RAt.more {N : Nat → Prop} (h : RAt w r D M) (hMN : ∀ k, M k → N k) (hlt : ∀ k, N k → k < w.heap.size) : RAt w r D N := ⟨h.1, h.2.imp fun y hy => ⟨hy.1.more hMN hlt, hy.2⟩⟩
/-- The parts when only the disk's own block has changed. -/
theorem RIn.own (h : RIn w r D y M) (hc : Chg (fun k => k = r) w w') : RParts w' D y := by
  obtain ⟨n1, n2, n3, n4, n5, n6⟩ := h.ne
  exact ⟨h.parts.files.chg hc n1, h.parts.names.chg hc n2, h.parts.lasts.chg hc n3, h.parts.queue.chg hc (fun k hk e => by
    rcases hk with hk | ⟨j, hk⟩
    · exact n4 k hk e
    · exact n5 j k hk e), h.parts.cutb.chg hc n6⟩
theorem RPost.same (h : RAt w' r D M) (hM : ∀ k, M k → k < w.heap.size) (hc : Chg M w w') : RPost w r M D w' :=
  ⟨h.more (fun k hk => .inl hk) (mx_lt hM hc.size), hc⟩
theorem RPost.trans {D1 D2 : DiskV} (h1 : RPost w r M D1 w1) (h2 : RAt w1 r D1 (Mx M w w1) → RPost w1 r (Mx M w w1) D2 w') : RPost w r M D2 w' := by
  obtain ⟨ha, hc⟩ := h1
  obtain ⟨hb, hc2⟩ := h2 ha
  have h0 := hc.size
  have h1 := hc2.size
  refine ⟨hb.more ?_ ?_, hc.trans hc2 ?_⟩
  · rintro k ((h | h) | h)
    · exact .inl h
    · exact .inr ⟨h.1, by omega⟩
    · exact .inr ⟨by omega, h.2⟩
  · rintro k (h | h)
    · have := ha.lt k (.inl h); omega
    · exact h.2
  · rintro k hk (h | h)
    · exact h
    · omega
theorem nmCells_len (l : RNms) : (nmCells l).length = l.length * 2 := by
  induction l with
  | nil => rfl
  | cons p l ih => simp only [nmCells, List.flatMap_cons, List.length_append, List.length_cons, List.length_nil] at *; omega
theorem nmCells_at (A B : RNms) (p : ByteArray × Int) : (nmCells (A ++ p :: B))[A.length * 2]? = some (.string p.1) ∧ (nmCells (A ++ p :: B))[A.length * 2 + 1]? = some (.int .i64 p.2) := by
  have e : nmCells (A ++ p :: B) = nmCells A ++ (.string p.1 :: .int .i64 p.2 :: nmCells B) := by simp [nmCells]
  have hl := nmCells_len A
  rw [e, List.getElem?_append_right (by omega), List.getElem?_append_right (by omega), hl]
  simp
theorem nmCells_snoc (l : RNms) (p : ByteArray × Int) : nmCells (l ++ [p]) = nmCells l ++ [.string p.1, .int .i64 p.2] := by simp [nmCells]
theorem flCells_len (l : List FileV) : (flCells l).length = l.length * 2 := by
  induction l with
  | nil => rfl
  | cons p l ih => simp only [flCells, List.flatMap_cons, List.length_append, List.length_cons, List.length_nil] at *; omega
theorem flCells_at (A B : List FileV) (f : FileV) : (flCells (A ++ f :: B))[A.length * 2]? = some (.string f.data) ∧ (flCells (A ++ f :: B))[A.length * 2 + 1]? = some (.int .i64 f.lasts) := by
  have e : flCells (A ++ f :: B) = flCells A ++ (.string f.data :: .int .i64 f.lasts :: flCells B) := by simp [flCells]
  have hl := flCells_len A
  rw [e, List.getElem?_append_right (by omega), List.getElem?_append_right (by omega), hl]
  simp
theorem flCells_get (l : List FileV) (i : Nat) (hi : i < l.length) : (flCells l)[i * 2]? = some (.string l[i].data) ∧ (flCells l)[i * 2 + 1]? = some (.int .i64 l[i].lasts) := by
  have e : l = l.take i ++ l[i] :: l.drop (i + 1) := by simp
  have hl : (l.take i).length = i := by simp; omega
  have := flCells_at (l.take i) (l.drop (i + 1)) l[i]
  rw [← e, hl] at this
  exact this
theorem flCells_set (l : List FileV) (i : Nat) (hi : i < l.length) (f : FileV) : ((flCells l).set (i * 2) (.string f.data)).set (i * 2 + 1) (.int .i64 f.lasts) = flCells (l.set i f) := by
  have e : l = l.take i ++ l[i] :: l.drop (i + 1) := by simp
  have hl : (l.take i).length = i := by simp; omega
  have hf := flCells_len (l.take i)
  rw [hl] at hf
  have e1 : l.set i f = l.take i ++ f :: l.drop (i + 1) := by rw [List.set_eq_take_append_cons_drop, if_pos hi]
  have e2 : flCells l = flCells (l.take i) ++ (.string l[i].data :: .int .i64 l[i].lasts :: flCells (l.drop (i + 1))) := by
    conv => lhs; rw [e]
    simp only [flCells, List.flatMap_append, List.flatMap_cons, List.cons_append, List.nil_append]
  have e3 : flCells (l.set i f) = flCells (l.take i) ++ (.string f.data :: .int .i64 f.lasts :: flCells (l.drop (i + 1))) := by
    rw [e1]
    simp only [flCells, List.flatMap_append, List.flatMap_cons, List.cons_append, List.nil_append]
  rw [e2, e3, List.set_append_right _ _ (by omega), List.set_append_right _ _ (by omega), hf]
  simp
end

/-! ### The plain lists -/
def wgo (c : ByteArray × Int) : Bool → RNms → RNms
  | put, [] => if put then [] else [c]
  | put, p :: r => if p.1 = c.1 then wgo c put r else if !put && slt c.1 p.1 then c :: p :: wgo c true r else p :: wgo c put r
def withR (l : RNms) (c : ByteArray × Int) : RNms := wgo c (decide (c.2 < 0)) l
def allR (l : RNms) (s : RNms) : RNms := s.foldl withR l
theorem wgo_true (c : ByteArray × Int) (l : Names) : wgo c true (ofNames l) = ofNames (dropN c.1 l) := by
  induction l with
  | nil => rfl
  | cons p r ih =>
    show wgo c true ((p.1, (p.2 : Int)) :: ofNames r) = _
    unfold wgo
    by_cases h : p.1 = c.1
    · rw [if_pos h, ih]
      simp [dropN, h]
    · rw [if_neg h, ih]
      simp [dropN, h, ofNames]
theorem wgo_false (n : ByteArray) (i : Nat) (l : Names) : wgo (n, (i : Int)) false (ofNames l) = ofNames (insN n i (dropN n l)) := by
  induction l with
  | nil => rfl
  | cons p r ih =>
    show wgo (n, (i : Int)) false ((p.1, (p.2 : Int)) :: ofNames r) = _
    unfold wgo
    by_cases h : p.1 = n
    · rw [if_pos h, ih]
      simp [dropN, h]
    · have hd : dropN n (p :: r) = p :: dropN n r := by simp [dropN, h]
      rw [if_neg h, hd, insN]
      by_cases hs : slt n p.1 = true
      · rw [if_pos (by simpa using hs), if_pos hs, wgo_true]
        rfl
      · rw [if_neg (by simpa using hs), if_neg hs, ih]
        rfl
theorem withR_eq (l : Names) (c : ByteArray × Option Nat) : withR (ofNames l) (ofChg c) = ofNames (doOne l c) := by
  obtain ⟨n, o⟩ := c
  cases o with
  | none => exact wgo_true (n, -1) l
  | some i =>
    show wgo (n, (i : Int)) (decide ((i : Int) < 0)) (ofNames l) = _
    rw [show decide ((i : Int) < 0) = false from by simp]
    exact wgo_false n i l
theorem allR_eq (l : Names) (s : StepV) : allR (ofNames l) (ofStep s) = ofNames (doStep l s) := by
  induction s generalizing l with
  | nil => rfl
  | cons c s ih =>
    show allR (withR (ofNames l) (ofChg c)) (ofStep s) = _
    rw [withR_eq, ih]
    rfl
theorem wgo_len (c : ByteArray × Int) : ∀ (put : Bool) (l : RNms), (wgo c put l).length ≤ l.length + 1
  | put, [] => by unfold wgo; split <;> simp
  | put, p :: r => by
    unfold wgo
    split
    · have := wgo_len c put r; simp; omega
    · split
      · have : (wgo c true r).length ≤ r.length := wgo_len2 c r
        simp; omega
      · have := wgo_len c put r; simp; omega
where wgo_len2 (c : ByteArray × Int) : ∀ l : RNms, (wgo c true l).length ≤ l.length
  | [] => by simp [wgo]
  | p :: r => by
    have := wgo_len2 c r
    unfold wgo
    split
    · simp; omega
    · simp; omega
def findN (l : RNms) (n : ByteArray) : Int := match l with | [] => -1 | p :: r => if p.1 = n then p.2 else findN r n
theorem findN_eq (l : Names) (n : ByteArray) : findN (ofNames l) n = match look l n with | some i => (i : Int) | none => -1 := by
  induction l with
  | nil => rfl
  | cons p r ih =>
    show findN ((p.1, (p.2 : Int)) :: ofNames r) n = _
    rw [look_cons]
    unfold findN
    split
    · rfl
    · exact ih
end Go.Proofs.YtjfbcjmnjlehaaaGreatDoor
