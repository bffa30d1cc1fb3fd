/-
  Names of files of every kind and number: the program's File, the document's.
-/
import Derived.Test.YtjfbcjmnjlehaaaGreatDoorWalJ
import Derived.Test.YtjfbcjmnjlehaaaGreatDoorNamM
import Derived.Lib.AppendIntMem
import Derived.Stop.LaidErr
namespace Go.Proofs.YtjfbcjmnjlehaaaGreatDoor
open Go.RowKit Go.Shelf
set_option linter.unusedVariables false
set_option linter.unusedSimpArgs false

/-- The library's table of powers of ten is as its text lays it. -/
def Tab (w : World) : Prop := Lib.TabIs Tryz.prog w "internal/strconv.uint64pow10" .u64 Lib.pow10Tab
theorem Tab.chg {w w' : World} (h : Tab w) (hc : Chg (fun _ => False) w w') : Tab w' := (Lib.tabBelow_of_tabIs h) w' hc.below
theorem ren_fmtM : Tryz.fmtIntM_ren.f 173 = 26 := by kernel_rfl
theorem fmt_any (n : Int) (h0 : 0 ≤ n) (h1 : n ≤ 9223372036854775807) (w : World) (ht : Tab w) : Calls Tryz.prog 26 #[.int .i64 n, .int .i64 10] w fun e w' => e = .returned (.string ⟨(Lib.decDigits n.toNat).toArray⟩) ∧ Chg (fun _ => False) w w' := by
  have h := Any.strconv_FormatInt_10 Tryz.fmtIntM n (by omega) h1 w ht
  rw [ren_fmtM] at h
  refine h.mono fun e w' ⟨he, k, os, hw⟩ => ⟨?_, ?_⟩
  · rw [he]
    unfold Lib.itoa
    rw [if_neg (by omega)]
  · subst hw
    exact Chg.of_below ⟨rfl, rfl, rfl, by show w.heap.size ≤ (w.heap ++ os).size; rw [Array.size_append]; omega, fun j hj => Lib.heap_grow_old w k os j (by omega)⟩
theorem str_trim_any (s : ByteArray) (w : World) (hs : s.size ≤ maxLen) : Calls Tryz.prog 25 #[.string s, .string letters] w fun e w' => e = .returned (.string ⟨(Lib.trimS s.data.toList letters.data.toList).toArray⟩) ∧ Chg (fun _ => False) w w' := by
  unfold maxLen at hs
  have h := Any.strings_Trim_laid Tryz.strTrim (by kernel_rfl) s letters w (by omega) (by decide) (ascii_of_all (by decide))
  rw [ren_trim] at h
  exact h.mono fun e w' ⟨he, hb⟩ => ⟨he, Chg.of_below hb⟩
def fileB (k : ByteArray) (n : Int) : ByteArray := ⟨(fileL k.data.toList n).toArray⟩
theorem isE (b : ByteArray) : b.toList.isEmpty = b.data.toList.isEmpty := by rw [ByteArray.toList_eq]
theorem trim_test (k : ByteArray) : (⟨(Lib.trimS k.data.toList letters.data.toList).toArray⟩ : ByteArray).toList.isEmpty = k.data.toList.all lowB := by
  rw [isE]
  have e : letters.data.toList = lettersL := rfl
  have h := trim_low k.data.toList
  rw [e]
  cases hx : k.data.toList.all lowB with
  | true => rw [h.2 hx]; rfl
  | false =>
    rw [List.isEmpty_eq_false_iff]
    intro h2
    rw [h.1 h2] at hx
    cases hx
theorem fileB_no {k : ByteArray} {n : Int} (h : ¬ (okKind k.data.toList = true ∧ 0 ≤ n ∧ n ≤ 99999999)) : fileB k n = ⟨#[]⟩ := by
  unfold fileB fileL
  rw [if_neg h]
theorem fileB_yes {k : ByteArray} {n : Int} (h : okKind k.data.toList = true ∧ 0 ≤ n ∧ n ≤ 99999999) : fileB k n = k ++ ⟨#[45]⟩ ++ ⟨(digK 8 n.toNat).toArray⟩ := by
  unfold fileB fileL
  rw [if_pos h]
  apply ByteArray.ext
  simp
theorem file_prog {k : ByteArray} {n : Int} (h : okKind k.data.toList = true ∧ 0 ≤ n ∧ n ≤ 99999999) : fileB k n = k ++ ⟨#[45]⟩ ++ ⟨(Lib.repeatL [48] (8 - (Lib.decDigits n.toNat).length)).toArray⟩ ++ ⟨(Lib.decDigits n.toNat).toArray⟩ := by
  unfold fileB fileL
  rw [if_pos h, ← (pad8 (show n.toNat < 100000000 by omega)).2]
  apply ByteArray.ext
  simp
set_option maxRecDepth 100000 in
set_option maxHeartbeats 2000000 in
theorem wal_file (k : ByteArray) (n : Int) (hk : k.size ≤ 140737488351232) (h0 : -9223372036854775808 ≤ n) (h1 : n ≤ 9223372036854775807) (w : World) (ht : Tab w) :
    Calls Tryz.prog 8 #[.string k, .int .i64 n] w fun e w' => e = .returned (.string (fileB k n)) ∧ Chg (fun _ => False) w w' := by
  have htr := fun w => str_trim_any k w (by unfold maxLen; omega)
  have hte := trim_test k
  obtain ⟨t, htt⟩ : ∃ t, (⟨(Lib.trimS k.data.toList letters.data.toList).toArray⟩ : ByteArray) = t := ⟨_, rfl⟩
  rw [htt] at htr hte
  have HTR := Lib.hid htr
  have HT := Lib.hid ht
  clear htr htt ht
  cases hke : k.toList.isEmpty with
  | true =>
    have hno : fileB k n = ⟨#[]⟩ := fileB_no (by
      rintro ⟨h, _⟩
      unfold okKind at h
      rw [← isE, hke] at h
      simp at h)
    rw [hno]
    clear hno hte
    go_enter Tryz.func8, Tryz.ntmps8
    go_wp2_with fail
    go_ret
    exact ⟨rfl, Chg.refl _ _⟩
  | false =>
    cases hall : k.data.toList.all lowB with
    | false =>
      have hno : fileB k n = ⟨#[]⟩ := fileB_no (by
        rintro ⟨h, _⟩
        unfold okKind at h
        rw [hall] at h
        simp at h)
      rw [hno]
      rw [hall] at hte
      clear hno hall
      go_enter Tryz.func8, Tryz.ntmps8
      go_wp2_with fail
      refine (HTR.out _).mono ?_
      rintro e w1 ⟨rfl, hc1⟩
      have HC1 := Lib.hid hc1
      clear hc1
      go_wp2_with fail
      go_ret
      exact ⟨rfl, HC1.out⟩
    | true =>
      rw [hall] at hte
      have hok : okKind k.data.toList = true := by
        unfold okKind
        rw [hall, ← isE, hke]
        rfl
      by_cases hn : 0 ≤ n ∧ n ≤ 99999999
      · obtain ⟨hn0, hn1⟩ := hn
        have hyes := file_prog ⟨hok, hn0, hn1⟩
        have hpad := (pad8 (show n.toNat < 100000000 by omega)).1
        have hfm := fun w ht => fmt_any n hn0 h1 w ht
        have hsz : (⟨(Lib.decDigits n.toNat).toArray⟩ : ByteArray).size = (Lib.decDigits n.toNat).length := by simp [ByteArray.size]
        obtain ⟨ds, hds⟩ : ∃ ds, (⟨(Lib.decDigits n.toNat).toArray⟩ : ByteArray) = ds := ⟨_, rfl⟩
        obtain ⟨m, hm⟩ : ∃ m, (Lib.decDigits n.toNat).length = m := ⟨_, rfl⟩
        rw [hds, hm] at hsz
        rw [hds] at hfm
        rw [hds, hm] at hyes
        rw [hm] at hpad
        have hrp := fun w => str_rep ⟨#[48]⟩ (8 - m) w (by show 1 * (8 - m) ≤ _; omega) (by omega)
        have hrz : (⟨(Lib.repeatL [48] (8 - m)).toArray⟩ : ByteArray).size = 8 - m := by simp [ByteArray.size, Lib.repeatL_length]
        obtain ⟨rp, hrpe⟩ : ∃ rp, (⟨(Lib.repeatL [48] (8 - m)).toArray⟩ : ByteArray) = rp := ⟨_, rfl⟩
        have hrp : ∀ w, Calls Tryz.prog 27 #[.string ⟨#[48]⟩, .int .i64 ((8 - m : Nat) : Int)] w fun e w' => e = .returned (.string rp) ∧ Chg (fun _ => False) w w' := fun w => by
          rw [← hrpe]
          exact hrp w
        rw [hrpe] at hyes hrz
        rw [hyes]
        have HRZ := Lib.hid hrz
        have HFM := Lib.hid hfm
        have HRP := Lib.hid hrp
        have HSZ := Lib.hid hsz
        clear hfm hrp hyes hds hm hall hok hsz hrpe hrz
        have e8 : (8 : Int) - (m : Int) = ((8 - m : Nat) : Int) := by omega
        have hd1 : decide (n < 0) = false := by simp; omega
        have hd2 : decide (n > 99999999) = false := by simp; omega
        go_enter Tryz.func8, Tryz.ntmps8
        go_wp2_with fail
        refine (HTR.out _).mono ?_
        rintro e w1 ⟨rfl, hc1⟩
        have HC1 := Lib.hid hc1
        have HT1 := Lib.hid (HT.out.chg hc1)
        clear hc1
        go_wp2_with fail
        refine (HFM.out _ HT1.out).mono ?_
        rintro e w2 ⟨rfl, hc2⟩
        have HC2 := Lib.hid (HC1.out.then hc2)
        have hsz := HSZ.out
        clear hc2
        go_wp2_with fail
        refine (HRP.out _).mono ?_
        rintro e w3 ⟨rfl, hc3⟩
        have HC3 := Lib.hid (HC2.out.then hc3)
        have hrz := HRZ.out
        clear hc3
        go_wp2_with fail
        go_ret
        exact ⟨rfl, HC3.out⟩
      · have hno : fileB k n = ⟨#[]⟩ := fileB_no (by
          rintro ⟨_, h⟩
          exact hn h)
        rw [hno]
        clear hno hall hok
        go_enter Tryz.func8, Tryz.ntmps8
        go_wp2_with fail
        refine (HTR.out _).mono ?_
        rintro e w1 ⟨rfl, hc1⟩
        have HC1 := Lib.hid hc1
        clear hc1
        go_wp2_with fail
        all_goals first | (exfalso; omega) | (go_ret; exact ⟨rfl, HC1.out⟩)
end Go.Proofs.YtjfbcjmnjlehaaaGreatDoor
