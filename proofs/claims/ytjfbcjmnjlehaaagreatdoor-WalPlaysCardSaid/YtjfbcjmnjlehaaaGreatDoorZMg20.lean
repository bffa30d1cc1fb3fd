/-
  Names of files of a kind and a number: plain facts about lists of bytes. Plain Lean; no program; no condition.
  Names of files of every kind and number: the program's File, the document's.
-/
import Derived.Test.YtjfbcjmnjlehaaaGreatDoorZMg02
import Derived.Lib.SlTrimSet
import Derived.Lib.ItoaNum
import Derived.Lib.Repeat
import Derived.Lib.ParseIntB
import Derived.Lib.Strings
import Derived.Test.YtjfbcjmnjlehaaaGreatDoorZMg19
import Derived.Lib.AppendIntMem
import Derived.Stop.LaidErr
namespace Go.Proofs.YtjfbcjmnjlehaaaGreatDoor
set_option linter.unusedVariables false
set_option linter.unusedSimpArgs false

def lowB (b : UInt8) : Bool := decide (97 ≤ b.toNat) && decide (b.toNat ≤ 122)
def lettersL : List UInt8 := [97, 98, 99, 100, 101, 102, 103, 104, 105, 106, 107, 108, 109, 110, 111, 112, 113, 114, 115, 116, 117, 118, 119, 120, 121, 122]
theorem letters_low (b : UInt8) : lettersL.contains b = lowB b := by
  have h : ∀ n : Fin 256, lettersL.contains (UInt8.ofNat n.val) = lowB (UInt8.ofNat n.val) := by decide +kernel
  have := h ⟨b.toNat, b.toNat_lt⟩
  simpa using this
theorem dropWhile_nil {α : Type} (p : α → Bool) : ∀ l : List α, (l.dropWhile p = [] ↔ l.all p = true)
  | [] => by simp
  | x :: l => by
    rw [List.dropWhile_cons]
    by_cases h : p x = true
    · rw [if_pos h, dropWhile_nil p l]; simp [h]
    · rw [if_neg h]; simp [h]
theorem dropWhile_head {α : Type} (p : α → Bool) : ∀ l : List α, ∀ x r, l.dropWhile p = x :: r → p x = false
  | [], x, r, h => by simp at h
  | y :: l, x, r, h => by
    rw [List.dropWhile_cons] at h
    by_cases hy : p y = true
    · rw [if_pos hy] at h; exact dropWhile_head p l x r h
    · rw [if_neg hy] at h; injection h with h1 h2; subst h1; simpa using hy
/-- Nothing is left of a text of small letters alone. -/
theorem trim_low (l : List UInt8) : (Lib.trimS l lettersL = [] ↔ l.all lowB = true) := by
  have hp : (fun b => lettersL.contains b) = lowB := funext letters_low
  unfold Lib.trimS Lib.trimLeftS Lib.trimRightS
  rw [hp, dropWhile_nil]
  constructor
  · intro h
    have h1 : (l.reverse.dropWhile lowB).all lowB = true := by simpa using h
    have h2 : l.reverse.dropWhile lowB = [] := by
      cases hd : l.reverse.dropWhile lowB with
      | nil => rfl
      | cons x r =>
        have h3 := dropWhile_head lowB _ _ _ hd
        rw [hd] at h1
        simp [h3] at h1
    have h4 := (dropWhile_nil lowB _).1 h2
    simpa using h4
  · intro h
    have h1 : l.reverse.all lowB = true := by simpa using h
    rw [(dropWhile_nil lowB _).2 h1]
    rfl
def okKind (k : List UInt8) : Bool := !k.isEmpty && k.all lowB
/-- The last k digits of a number. -/
def digK : Nat → Nat → List UInt8
  | 0, _ => []
  | k + 1, n => digK k (n / 10) ++ [u8 (48 + n % 10)]
theorem digK_len : ∀ k n, (digK k n).length = k
  | 0, _ => rfl
  | k + 1, n => by simp [digK, digK_len k]
theorem digK_zero : ∀ k, digK k 0 = List.replicate k 48
  | 0 => rfl
  | k + 1 => by
    rw [digK, Nat.zero_div, digK_zero k, List.replicate_succ']
    rfl
theorem digK_pad : ∀ (k n : Nat), n < 10 ^ (k + 1) → (Lib.decDigits n).length ≤ k + 1 ∧ List.replicate (k + 1 - (Lib.decDigits n).length) 48 ++ Lib.decDigits n = digK (k + 1) n
  | k, n, h => by
    by_cases h10 : n < 10
    · have e : Lib.decDigits n = [UInt8.ofNat (48 + n)] := by rw [Lib.decDigits, dif_pos h10]
      rw [e, digK, Nat.div_eq_of_lt h10, digK_zero, Nat.mod_eq_of_lt h10]
      exact ⟨by simp, rfl⟩
    · have e : Lib.decDigits n = Lib.decDigits (n / 10) ++ [UInt8.ofNat (48 + n % 10)] := by rw [Lib.decDigits, dif_neg h10]
      obtain ⟨j, rfl⟩ : ∃ j, k = j + 1 := by
        cases k with
        | zero => simp at h; omega
        | succ j => exact ⟨j, rfl⟩
      have hd : n / 10 < 10 ^ (j + 1) := by
        rw [Nat.pow_succ] at h
        exact Nat.div_lt_of_lt_mul (by rw [Nat.mul_comm]; exact h)
      obtain ⟨h1, h2⟩ := digK_pad j (n / 10) hd
      rw [e, List.length_append, List.length_singleton, digK, ← h2]
      refine ⟨by omega, ?_⟩
      rw [← List.append_assoc]
      congr 2
      congr 1
      omega
theorem repeat_one (b : UInt8) : ∀ c, Lib.repeatL [b] c = List.replicate c b
  | 0 => rfl
  | c + 1 => by rw [Lib.repeatL, repeat_one b c]; rfl
theorem pad8 {n : Nat} (h : n < 100000000) : (Lib.decDigits n).length ≤ 8 ∧ Lib.repeatL [48] (8 - (Lib.decDigits n).length) ++ Lib.decDigits n = digK 8 n := by
  rw [repeat_one]
  exact digK_pad 7 n (by omega)
/-- The document's way: digit by digit, from the last one on. -/
theorem digK_front (n : Nat) : ∀ k, digK (k + 1) n = u8 (48 + n / 10 ^ k % 10) :: digK k n
  | 0 => by simp [digK]
  | k + 1 => by
    have ih := digK_front (n / 10) k
    rw [digK, ih, Nat.div_div_eq_div_mul, ← Nat.pow_succ', List.cons_append]
    rfl
def isDig (b : UInt8) : Bool := decide (48 ≤ b.toNat) && decide (b.toNat ≤ 57)
theorem digK_all : ∀ k n, (digK k n).all isDig = true
  | 0, _ => rfl
  | k + 1, n => by
    rw [digK, List.all_append, digK_all k]
    have : isDig (u8 (48 + n % 10)) = true := by
      unfold isDig
      rw [u8_nat (by omega)]
      simp
      omega
    simp [this]
def valFrom (acc : Nat) (l : List UInt8) : Nat := l.foldl (fun a b => 10 * a + (b.toNat - 48)) acc
theorem val_append (acc : Nat) (l m : List UInt8) : valFrom acc (l ++ m) = valFrom (valFrom acc l) m := by simp [valFrom]
theorem val_digK : ∀ k n, valFrom 0 (digK k n) = n % 10 ^ k
  | 0, n => by simp [digK, valFrom]; omega
  | k + 1, n => by
    rw [digK, val_append, val_digK k]
    show 10 * (n / 10 % 10 ^ k) + ((u8 (48 + n % 10)).toNat - 48) = _
    rw [u8_nat (by omega), Nat.pow_succ', Nat.mod_mul]
    omega
theorem val_lt : ∀ (l : List UInt8) (acc : Nat), l.all isDig = true → valFrom acc l < (acc + 1) * 10 ^ l.length
  | [], acc, _ => by simp [valFrom]
  | b :: r, acc, h => by
    simp only [List.all_cons, Bool.and_eq_true] at h
    have hb : 48 ≤ b.toNat ∧ b.toNat ≤ 57 := by simpa [isDig] using h.1
    have ih := val_lt r (10 * acc + (b.toNat - 48)) h.2
    show valFrom (10 * acc + (b.toNat - 48)) r < _
    refine Nat.lt_of_lt_of_le ih ?_
    rw [List.length_cons, Nat.pow_succ', ← Nat.mul_assoc]
    exact Nat.mul_le_mul_right _ (by omega)
/-- The name of a file of this kind and number; nothing where there is none. -/
def fileL (k : List UInt8) (n : Int) : List UInt8 := if okKind k = true ∧ 0 ≤ n ∧ n ≤ 99999999 then k ++ 45 :: digK 8 n.toNat else []
theorem fileL_len {k : List UInt8} {n : Int} : (fileL k n).length = 0 ∨ (fileL k n).length = k.length + 9 := by
  unfold fileL
  split
  · right; simp [digK_len]
  · left; rfl
/-- The number of a name of this kind. -/
def numL (k s : List UInt8) : Int × Bool := if s.length = k.length + 9 ∧ (s.drop (k.length + 1)).all isDig = true ∧ fileL k (valFrom 0 (s.drop (k.length + 1)) : Nat) = s then ((valFrom 0 (s.drop (k.length + 1)) : Nat), true) else (0, false)
theorem numL_of {k s : List UInt8} {n : Int} (h : fileL k n = s) (hs : s ≠ []) : okKind k = true ∧ 0 ≤ n ∧ n ≤ 99999999 ∧ s = k ++ 45 :: digK 8 n.toNat ∧ s.drop (k.length + 1) = digK 8 n.toNat ∧ numL k s = (n, true) := by
  have h0 := h
  unfold fileL at h
  split at h
  case isFalse => exact absurd h.symm hs
  rename_i hc
  obtain ⟨h1, h2, h3⟩ := hc
  have hd : s.drop (k.length + 1) = digK 8 n.toNat := by
    rw [← h, ← List.drop_drop, List.drop_left]
    rfl
  have hv : ((valFrom 0 (digK 8 n.toNat) : Nat) : Int) = n := by
    rw [val_digK, Nat.mod_eq_of_lt (by omega)]
    omega
  refine ⟨h1, h2, h3, h.symm, hd, ?_⟩
  unfold numL
  rw [hd, hv, if_pos ⟨by rw [← h]; simp [digK_len], digK_all _ _, h0⟩]
theorem parse_digits (M : Nat) (hM : 18446744073709551615 ≤ M) : ∀ (l : List UInt8) (acc : Nat), l.all isDig = true → (acc + 1) * 10 ^ l.length ≤ 100000000000000000 → Lib.parseUintM M acc l = .ok (valFrom acc l)
  | [], acc, _, _ => rfl
  | b :: r, acc, h, hb => by
    simp only [List.all_cons, Bool.and_eq_true] at h
    have hd : 48 ≤ b.toNat ∧ b.toNat ≤ 57 := by simpa [isDig] using h.1
    have hp : 0 < 10 ^ r.length := Nat.pow_pos (by omega)
    have hle : (acc + 1) * 10 ≤ 100000000000000000 := by
      refine Nat.le_trans ?_ hb
      rw [List.length_cons, Nat.pow_succ', ← Nat.mul_assoc]
      exact Nat.le_mul_of_pos_right _ hp
    unfold Lib.parseUintM
    rw [if_pos hd, if_neg (by omega), if_neg (by omega)]
    have ih := parse_digits M hM r (acc * 10 + (b.toNat - 48)) h.2 (by
      refine Nat.le_trans (Nat.mul_le_mul_right _ (show acc * 10 + (b.toNat - 48) + 1 ≤ (acc + 1) * 10 by omega)) ?_
      rw [Nat.mul_assoc, ← Nat.pow_succ']
      exact hb)
    rw [ih]
    show _ = Lib.NumEnd.ok (valFrom (10 * acc + (b.toNat - 48)) r)
    rw [Nat.mul_comm acc 10]
theorem parse_digK (n : Nat) (h : n < 100000000) : Lib.parseIntB 64 (digK 8 n) = .ok (n : Int) := by
  have hall := digK_all 8 n
  have hlen := digK_len 8 n
  have hv := val_digK 8 n
  rw [Nat.mod_eq_of_lt (by omega)] at hv
  cases hl : digK 8 n with
  | nil => rw [hl] at hlen; simp at hlen
  | cons c r =>
    rw [hl] at hall hlen hv
    have hc : 48 ≤ c.toNat ∧ c.toNat ≤ 57 := by
      simp only [List.all_cons, Bool.and_eq_true] at hall
      simpa [isDig] using hall.1
    have hp : Lib.parseUintB 64 (c :: r) = .ok n := by
      unfold Lib.parseUintB
      rw [if_neg (by simp), parse_digits _ (by decide) _ 0 hall (by rw [hlen]; decide), hv]
    unfold Lib.parseIntB
    simp only
    rw [if_neg (by omega), hp]
    simp only
    rw [if_neg (by simp; omega), if_neg (by simp; omega), if_neg (by omega)]
/-- The program's way to a name's number. -/
theorem num_prog (k s : List UInt8) : numL k s = if Lib.hasPrefix s (k ++ [45]) = true ∧ (Lib.trimPrefix s (k ++ [45])).length = 8 then
      (match Lib.parseIntB 64 (Lib.trimPrefix s (k ++ [45])) with | .ok v => if fileL k v = s then (v, true) else (0, false) | _ => (0, false)) else (0, false) := by
  by_cases hn : ∃ n, fileL k n = s ∧ s ≠ []
  · obtain ⟨n, h, hs⟩ := hn
    obtain ⟨h1, h2, h3, h4, h5, h6⟩ := numL_of h hs
    have hp : Lib.hasPrefix s (k ++ [45]) = true := by
      unfold Lib.hasPrefix
      rw [List.isPrefixOf_iff_prefix]
      exact ⟨digK 8 n.toNat, by rw [h4]; simp⟩
    have ht : Lib.trimPrefix s (k ++ [45]) = digK 8 n.toNat := by
      unfold Lib.trimPrefix
      rw [if_pos hp, ← h5]
      simp
    rw [h6, ht, if_pos ⟨hp, digK_len _ _⟩, parse_digK _ (by omega)]
    simp only
    rw [Int.toNat_of_nonneg h2, if_pos h]
  · have hl : numL k s = (0, false) := by
      unfold numL
      rw [if_neg]
      rintro ⟨h1, _, h3⟩
      exact hn ⟨_, h3, fun e => by rw [e] at h1; simp at h1⟩
    rw [hl]
    split
    · rename_i hc
      have hs : s ≠ [] := fun e => by
        subst e
        have := hc.1
        unfold Lib.hasPrefix at this
        rw [List.isPrefixOf_iff_prefix] at this
        have := this.length_le
        simp at this
      split
      · rw [if_neg]
        exact fun e => hn ⟨_, e, hs⟩
      · rfl
    · rfl
end Go.Proofs.YtjfbcjmnjlehaaaGreatDoor
namespace Go.Proofs.YtjfbcjmnjlehaaaGreatDoor
open Go.RowKit Go.Shelf
set_option linter.unusedVariables false
set_option linter.unusedSimpArgs false

/-- The library's table of powers of ten is as its text lays it. -/
def Tab (w : World) : Prop := Lib.TabIs Tryz.prog w "internal/strconv.uint64pow10" .u64 Lib.pow10Tab
theorem Tab.chg {w w' : World} (h : Tab w) (hc : Chg (fun _ => False) w w') : Tab w' := (Lib.tabBelow_of_tabIs h) w' hc.below
theorem ren_fmtM : Tryz.fmtIntM_ren.f 173 = 26 := by kernel_rfl
theorem fmt_any (n : Int) (h0 : 0 ≤ n) (h1 : n ≤ 9223372036854775807) (w : World) (ht : Tab w) : Calls Tryz.prog 26 #[.int .i64 n, .int .i64 10] w fun e w' => e = .returned (.string ⟨(Lib.decDigits n.toNat).toArray⟩) ∧ Chg (fun _ => False) w w' := by
  have h := Any.strconv_FormatInt_10 Tryz.fmtIntM n (by omega) h1 w ht
  rw [ren_fmtM] at h
  refine h.mono fun e w' ⟨he, k, os, hw⟩ => ⟨?_, ?_⟩
  · rw [he]
    unfold Lib.itoa
    rw [if_neg (by omega)]
  · subst hw
    exact Chg.of_below ⟨rfl, rfl, rfl, by show w.heap.size ≤ (w.heap ++ os).size; rw [Array.size_append]; omega, fun j hj => Lib.heap_grow_old w k os j (by omega)⟩
theorem str_trim_any (s : ByteArray) (w : World) (hs : s.size ≤ maxLen) : Calls Tryz.prog 25 #[.string s, .string letters] w fun e w' => e = .returned (.string ⟨(Lib.trimS s.data.toList letters.data.toList).toArray⟩) ∧ Chg (fun _ => False) w w' := by
  unfold maxLen at hs
  have h := Any.strings_Trim_laid Tryz.strTrim (by kernel_rfl) s letters w (by omega) (by decide) (ascii_of_all (by decide))
  rw [ren_trim] at h
  exact h.mono fun e w' ⟨he, hb⟩ => ⟨he, Chg.of_below hb⟩
def fileB (k : ByteArray) (n : Int) : ByteArray := ⟨(fileL k.data.toList n).toArray⟩
theorem isE (b : ByteArray) : b.toList.isEmpty = b.data.toList.isEmpty := by rw [ByteArray.toList_eq]
theorem trim_test (k : ByteArray) : (⟨(Lib.trimS k.data.toList letters.data.toList).toArray⟩ : ByteArray).toList.isEmpty = k.data.toList.all lowB := by
  rw [isE]
  have e : letters.data.toList = lettersL := rfl
  have h := trim_low k.data.toList
  rw [e]
  cases hx : k.data.toList.all lowB with
  | true => rw [h.2 hx]; rfl
  | false =>
    rw [List.isEmpty_eq_false_iff]
    intro h2
    rw [h.1 h2] at hx
    cases hx
theorem fileB_no {k : ByteArray} {n : Int} (h : ¬ (okKind k.data.toList = true ∧ 0 ≤ n ∧ n ≤ 99999999)) : fileB k n = ⟨#[]⟩ := by
  unfold fileB fileL
  rw [if_neg h]
theorem fileB_yes {k : ByteArray} {n : Int} (h : okKind k.data.toList = true ∧ 0 ≤ n ∧ n ≤ 99999999) : fileB k n = k ++ ⟨#[45]⟩ ++ ⟨(digK 8 n.toNat).toArray⟩ := by
  unfold fileB fileL
  rw [if_pos h]
  apply ByteArray.ext
  simp
theorem file_prog {k : ByteArray} {n : Int} (h : okKind k.data.toList = true ∧ 0 ≤ n ∧ n ≤ 99999999) : fileB k n = k ++ ⟨#[45]⟩ ++ ⟨(Lib.repeatL [48] (8 - (Lib.decDigits n.toNat).length)).toArray⟩ ++ ⟨(Lib.decDigits n.toNat).toArray⟩ := by
  unfold fileB fileL
  rw [if_pos h, ← (pad8 (show n.toNat < 100000000 by omega)).2]
  apply ByteArray.ext
  simp
set_option maxRecDepth 100000 in
set_option maxHeartbeats 2000000 in
theorem wal_file (k : ByteArray) (n : Int) (hk : k.size ≤ 140737488351232) (h0 : -9223372036854775808 ≤ n) (h1 : n ≤ 9223372036854775807) (w : World) (ht : Tab w) :
    Calls Tryz.prog 8 #[.string k, .int .i64 n] w fun e w' => e = .returned (.string (fileB k n)) ∧ Chg (fun _ => False) w w' := by
  have htr := fun w => str_trim_any k w (by unfold maxLen; omega)
  have hte := trim_test k
  obtain ⟨t, htt⟩ : ∃ t, (⟨(Lib.trimS k.data.toList letters.data.toList).toArray⟩ : ByteArray) = t := ⟨_, rfl⟩
  rw [htt] at htr hte
  have HTR := Lib.hid htr
  have HT := Lib.hid ht
  clear htr htt ht
  cases hke : k.toList.isEmpty with
  | true =>
    have hno : fileB k n = ⟨#[]⟩ := fileB_no (by
      rintro ⟨h, _⟩
      unfold okKind at h
      rw [← isE, hke] at h
      simp at h)
    rw [hno]
    clear hno hte
    go_enter Tryz.func8, Tryz.ntmps8
    go_wp2_with fail
    go_ret
    exact ⟨rfl, Chg.refl _ _⟩
  | false =>
    cases hall : k.data.toList.all lowB with
    | false =>
      have hno : fileB k n = ⟨#[]⟩ := fileB_no (by
        rintro ⟨h, _⟩
        unfold okKind at h
        rw [hall] at h
        simp at h)
      rw [hno]
      rw [hall] at hte
      clear hno hall
      go_enter Tryz.func8, Tryz.ntmps8
      go_wp2_with fail
      refine (HTR.out _).mono ?_
      rintro e w1 ⟨rfl, hc1⟩
      have HC1 := Lib.hid hc1
      clear hc1
      go_wp2_with fail
      go_ret
      exact ⟨rfl, HC1.out⟩
    | true =>
      rw [hall] at hte
      have hok : okKind k.data.toList = true := by
        unfold okKind
        rw [hall, ← isE, hke]
        rfl
      by_cases hn : 0 ≤ n ∧ n ≤ 99999999
      · obtain ⟨hn0, hn1⟩ := hn
        have hyes := file_prog ⟨hok, hn0, hn1⟩
        have hpad := (pad8 (show n.toNat < 100000000 by omega)).1
        have hfm := fun w ht => fmt_any n hn0 h1 w ht
        have hsz : (⟨(Lib.decDigits n.toNat).toArray⟩ : ByteArray).size = (Lib.decDigits n.toNat).length := by simp [ByteArray.size]
        obtain ⟨ds, hds⟩ : ∃ ds, (⟨(Lib.decDigits n.toNat).toArray⟩ : ByteArray) = ds := ⟨_, rfl⟩
        obtain ⟨m, hm⟩ : ∃ m, (Lib.decDigits n.toNat).length = m := ⟨_, rfl⟩
        rw [hds, hm] at hsz
        rw [hds] at hfm
        rw [hds, hm] at hyes
        rw [hm] at hpad
        have hrp := fun w => str_rep ⟨#[48]⟩ (8 - m) w (by show 1 * (8 - m) ≤ _; omega) (by omega)
        have hrz : (⟨(Lib.repeatL [48] (8 - m)).toArray⟩ : ByteArray).size = 8 - m := by simp [ByteArray.size, Lib.repeatL_length]
        obtain ⟨rp, hrpe⟩ : ∃ rp, (⟨(Lib.repeatL [48] (8 - m)).toArray⟩ : ByteArray) = rp := ⟨_, rfl⟩
        have hrp : ∀ w, Calls Tryz.prog 27 #[.string ⟨#[48]⟩, .int .i64 ((8 - m : Nat) : Int)] w fun e w' => e = .returned (.string rp) ∧ Chg (fun _ => False) w w' := fun w => by
          rw [← hrpe]
          exact hrp w
        rw [hrpe] at hyes hrz
        rw [hyes]
        have HRZ := Lib.hid hrz
        have HFM := Lib.hid hfm
        have HRP := Lib.hid hrp
        have HSZ := Lib.hid hsz
        clear hfm hrp hyes hds hm hall hok hsz hrpe hrz
        have e8 : (8 : Int) - (m : Int) = ((8 - m : Nat) : Int) := by omega
        have hd1 : decide (n < 0) = false := by simp; omega
        have hd2 : decide (n > 99999999) = false := by simp; omega
        go_enter Tryz.func8, Tryz.ntmps8
        go_wp2_with fail
        refine (HTR.out _).mono ?_
        rintro e w1 ⟨rfl, hc1⟩
        have HC1 := Lib.hid hc1
        have HT1 := Lib.hid (HT.out.chg hc1)
        clear hc1
        go_wp2_with fail
        refine (HFM.out _ HT1.out).mono ?_
        rintro e w2 ⟨rfl, hc2⟩
        have HC2 := Lib.hid (HC1.out.then hc2)
        have hsz := HSZ.out
        clear hc2
        go_wp2_with fail
        refine (HRP.out _).mono ?_
        rintro e w3 ⟨rfl, hc3⟩
        have HC3 := Lib.hid (HC2.out.then hc3)
        have hrz := HRZ.out
        clear hc3
        go_wp2_with fail
        go_ret
        exact ⟨rfl, HC3.out⟩
      · have hno : fileB k n = ⟨#[]⟩ := fileB_no (by
          rintro ⟨_, h⟩
          exact hn h)
        rw [hno]
        clear hno hall hok
        go_enter Tryz.func8, Tryz.ntmps8
        go_wp2_with fail
        refine (HTR.out _).mono ?_
        rintro e w1 ⟨rfl, hc1⟩
        have HC1 := Lib.hid hc1
        clear hc1
        go_wp2_with fail
        all_goals first | (exfalso; omega) | (go_ret; exact ⟨rfl, HC1.out⟩)
end Go.Proofs.YtjfbcjmnjlehaaaGreatDoor
