/-
  The program's frame: All.
  Names of logs, for the small numbers that the laws use.
  Names of files of a kind and a number: plain facts about lists of bytes. Plain Lean; no program; no condition.
  Names of files of every kind and number: the program's File, the document's.
  What manifests make of a disk: plain data. No program's text.
  The program's manifest: calls one behind the other; write, create.
-/
import Derived.Test.YtahahginmgidjaaGreatDoorZFraC
import Derived.Test.YtahahginmgidjaaGreatDoorZMg08
import Derived.Test.YtahahginmgidjaaGreatDoorLay
import Derived.Test.YtahahginmgidjaaGreatDoorZMg09
import Derived.Lib.SlTrimSet
import Derived.Lib.ItoaNum
import Derived.Lib.Repeat
import Derived.Lib.ParseIntB
import Derived.Lib.Strings
import Derived.Lib.AppendIntMem
import Derived.Stop.LaidErr
import Derived.Outline
namespace Go.Proofs.YtahahginmgidjaaGreatDoor
open Go.RowKit
set_option linter.unusedVariables false
set_option linter.unusedSimpArgs false

def strC : Codec ByteArray := ⟨fun x => [.string x], 1, 9, 23, .string ⟨#[]⟩, 16⟩
theorem strOk : strC.Ok := ⟨fun _ => rfl, by decide, fun x v hv => by simp [strC] at hv; subst hv; rfl, Tryz.underlying23, by kernel_rfl, rfl, by decide⟩
theorem str_form {w : World} {v : Value} {l : List ByteArray} (h : Lst strC w v l) : ∃ a cap, v = .slice a l.length cap ∧ l.length ≤ cap ∧ l.length ≤ 9223372036854775807 ∧ ∀ A x B, l = A ++ x :: B → ∃ b, a = some ⟨b, 0, none⟩ ∧ b < w.heap.size ∧ v.ownBlock = some b ∧
    w.cell? ⟨b, A.length, none⟩ = some (.string x) := by
  obtain ⟨a, cap, e, h1, h2, h3⟩ := h.form strOk
  refine ⟨a, cap, e, h1, h2, fun A x B hl => ?_⟩
  obtain ⟨b, eb, hb, ho, hc⟩ := h3 A x B hl
  have := hc 0 _ rfl
  exact ⟨b, eb, hb, ho, by simpa [strC] using this⟩
/-- Bytes as lists. -/
def bl (l : List ByteArray) : List (List UInt8) := l.map fun b => b.data.toList
def AllPost (w : World) (s : ByteArray) (e : Ending) (w' : World) : Prop :=
  ∃ (v : Value) (l : List ByteArray) (n : Nat), e = .returned (.tuple #[v, .int .i64 (n : Int), .int .i64 ((allF s.data.toList).2 : Int)]) ∧ bl l = (allF s.data.toList).1 ∧ Lst strC w' v l ∧ l.length ≤ s.size ∧ Chg (fun _ => False) w w'
set_option maxRecDepth 100000 in
set_option maxHeartbeats 2000000 in
theorem fra_all (s : ByteArray) (w : World) (hs : s.size ≤ 1000000000) : Calls Tryz.prog 57 #[.string s] w (AllPost w s) := by
  have hg := fun k (hk : k ≤ s.size) w => fra_get s k w hs hk
  have HG := Lib.hid hg
  clear hg
  go_enter Tryz.func57, Tryz.ntmps57
  go_wp2_with fail
  go_loopw [5, 6] (fun v i wr => ∃ (k : Nat) (l : List ByteArray), k ≤ s.size ∧ i = .int .i64 k ∧ Lst strC wr v l ∧ l.length ≤ k ∧ (∀ j, v.ownBlock = some j → w.heap.size ≤ j) ∧ allF s.data.toList = (bl l ++ (allF (s.data.toList.drop k)).1, (allF (s.data.toList.drop k)).2) ∧ Chg (fun _ => False) w wr) (fun _ i _ => s.size + 1 - (intOf i).toNat)
  case atStart => exact ⟨0, [], by omega, rfl, Lst.nil _ _, by simp, by simp [Value.ownBlock], by simp [bl], Chg.refl _ _⟩
  case round =>
    obtain ⟨k, l, hk, rfl, hL, hlk, hown, hall, hcr⟩ := hrel
    obtain ⟨la, lc, rfl, h1, h2, _⟩ := str_form hL
    have HL := Lib.hid hL
    have HALL := Lib.hid hall
    have HOWN := Lib.hid hown
    have HCR := Lib.hid hcr
    obtain ⟨wq, rfl⟩ : ∃ wq : World, wq = wr := ⟨_, rfl⟩
    clear hL hall hown hcr
    go_wp2_with fail
    refine (HG.out k hk _).mono ?_
    rintro e w1 (⟨b, h0, hb, rfl, hc1⟩ | ⟨hne, rfl, hc1⟩)
    · have hz := getF_zero h0
      rw [List.length_drop, Array.length_toList] at hz
      have hsz : s.data.size = s.size := rfl
      rw [hsz] at hz
      obtain ⟨m, hm⟩ : ∃ m, 8 + fraN (s.data.toList.drop k) = m := ⟨_, rfl⟩
      have hall2 : allF s.data.toList = (bl (l ++ [b]) ++ (allF (s.data.toList.drop (k + m))).1, (allF (s.data.toList.drop (k + m))).2) := by
        rw [HALL.out, allF_yes h0, ← hb, hm, List.drop_drop]
        simp [bl]
      rw [hm] at hz ⊢
      obtain ⟨_, hz2, _, _⟩ := hz
      have hm8 : 8 ≤ m := by omega
      have hL1 := HL.out.same (hc1.then ((Chg.refl _ w1).alloc (.cells #[.string b] 9)))
      have hbk : Blk (w1.alloc (.cells #[.string b] 9)) w1.heap.size 9 #[.string b] := Blk.new _ _ _
      have hs1 : w.heap.size ≤ w1.heap.size := (HCR.out.then hc1).size
      have HL1 := Lib.hid hL1
      have HBK := Lib.hid hbk
      have HA2 := Lib.hid hall2
      have HM := Lib.hid hm
      have HC1 := Lib.hid hc1
      clear hL1 hbk hall2 hm hc1 h0 hb hsz
      go_wp2_with (at_builtin; refine wpList_lst_app strOk _ (by rfl) _ _ (by rfl) l (.slice la l.length lc) b (by rfl) HL1.out w1.heap.size (by rfl) (by omega) HBK.out ?_)
      intro v' w2 hO hc2 hk2
      obtain ⟨xa, xc, ex, _⟩ := str_form hO
      subst ex
      have hcw : Chg (fun _ => False) w w2 := by
        refine ((HCR.out.then HC1.out).alloc _).trans hc2 fun j hj e => ?_
        have := HOWN.out j e
        omega
      have hown2 : ∀ j, (Value.slice xa (l ++ [b]).length xc).ownBlock = some j → w.heap.size ≤ j := fun j e => by
        rcases hk2 j e with h | h
        · exact HOWN.out j h
        · omega
      have HO := Lib.hid hO
      have HCW := Lib.hid hcw
      have HOW2 := Lib.hid hown2
      clear hO hc2 hk2 hcw hown2
      go_wp2_with fail
      refine ⟨⟨k + m, l ++ [b], by omega, rfl, HO.out, by simp; omega, HOW2.out, HA2.out, HCW.out⟩, by simp [intOf]; omega⟩
    · have he : allF (s.data.toList.drop k) = ([], getF (s.data.toList.drop k)) := allF_no hne
      obtain ⟨g, hg⟩ : ∃ g, getF (s.data.toList.drop k) = g := ⟨_, rfl⟩
      rw [hg] at hne he ⊢
      have hq1 : ((g : Int) != 0) = true := by simp; omega
      have hq2 : ((g : Int) == 0) = false := by simp; omega
      have HE := Lib.hid he
      have HC1 := Lib.hid hc1
      clear hg he hc1
      go_wp2_with fail
      refine bodyPost_ret (v := .tuple #[.slice la l.length lc, .int .i64 (k : Int), .int .i64 (g : Int)]) (by simp [results, Tryz.results57, go_sem]) rfl ⟨_, l, k, ?_, ?_, HL.out.same HC1.out, by omega, HCR.out.then HC1.out⟩
      · rw [HALL.out, HE.out]
      · rw [HALL.out, HE.out]
        simp
end Go.Proofs.YtahahginmgidjaaGreatDoor
namespace Go.Proofs.YtahahginmgidjaaGreatDoor
open Go.RowKit Go.Shelf
set_option linter.unusedVariables false
set_option linter.unusedSimpArgs false

theorem rep_extra : Builder.Extra Tryz.prog Tryz.strRep_ren where
  sizeBuilder := by kernel_rfl
  liesBuilder := by kernel_rfl
  t5 := Tryz.strRep.t5
  a5 := Tryz.strRep.a5
  z5 := Tryz.strRep.z5
  v5 := Tryz.strRep.v5
  infoByte := by kernel_rfl
  cellsByte := by kernel_rfl
  sizeByte := by kernel_rfl
  neB5 := by decide
theorem ren_trim : Tryz.strTrim_ren.f 160 = 149 := by kernel_rfl
theorem ren_rep : Tryz.strRep_ren.f 105 = 151 := by kernel_rfl
def letters : ByteArray := ⟨#[97, 98, 99, 100, 101, 102, 103, 104, 105, 106, 107, 108, 109, 110, 111, 112, 113, 114, 115, 116, 117, 118, 119, 120, 121, 122]⟩
theorem str_rep (s : ByteArray) (c : Nat) (w : World) (hlen : s.size * c ≤ 140737488355328) (hc : c ≤ 9223372036854775807) : Calls Tryz.prog 151 #[.string s, .int .i64 (c : Int)] w fun e w' => e = .returned (.string ⟨(Lib.repeatL s.data.toList c).toArray⟩) ∧ Chg (fun _ => False) w w' := by
  have h := Any.strings_Repeat Tryz.strRep rep_extra s c w hc hlen
  rw [ren_rep] at h
  exact h.mono fun e w' ⟨he, hb⟩ => ⟨he, Chg.of_below hb⟩
end Go.Proofs.YtahahginmgidjaaGreatDoor
namespace Go.Proofs.YtahahginmgidjaaGreatDoor
set_option linter.unusedVariables false
set_option linter.unusedSimpArgs false

def lowB (b : UInt8) : Bool := decide (97 ≤ b.toNat) && decide (b.toNat ≤ 122)
def lettersL : List UInt8 := [97, 98, 99, 100, 101, 102, 103, 104, 105, 106, 107, 108, 109, 110, 111, 112, 113, 114, 115, 116, 117, 118, 119, 120, 121, 122]
theorem letters_low (b : UInt8) : lettersL.contains b = lowB b := by
  have h : ∀ n : Fin 256, lettersL.contains (UInt8.ofNat n.val) = lowB (UInt8.ofNat n.val) := by decide +kernel
  have := h ⟨b.toNat, b.toNat_lt⟩
  simpa using this
theorem dropWhile_nil {α : Type} (p : α → Bool) : ∀ l : List α, (l.dropWhile p = [] ↔ l.all p = true)
  | [] => by simp
  | x :: l => by
    rw [List.dropWhile_cons]
    by_cases h : p x = true
    · rw [if_pos h, dropWhile_nil p l]; simp [h]
    · rw [if_neg h]; simp [h]
theorem dropWhile_head {α : Type} (p : α → Bool) : ∀ l : List α, ∀ x r, l.dropWhile p = x :: r → p x = false
  | [], x, r, h => by simp at h
  | y :: l, x, r, h => by
    rw [List.dropWhile_cons] at h
    by_cases hy : p y = true
    · rw [if_pos hy] at h; exact dropWhile_head p l x r h
    · rw [if_neg hy] at h; injection h with h1 h2; subst h1; simpa using hy
/-- Nothing is left of a text of small letters alone. -/
theorem trim_low (l : List UInt8) : (Lib.trimS l lettersL = [] ↔ l.all lowB = true) := by
  have hp : (fun b => lettersL.contains b) = lowB := funext letters_low
  unfold Lib.trimS Lib.trimLeftS Lib.trimRightS
  rw [hp, dropWhile_nil]
  constructor
  · intro h
    have h1 : (l.reverse.dropWhile lowB).all lowB = true := by simpa using h
    have h2 : l.reverse.dropWhile lowB = [] := by
      cases hd : l.reverse.dropWhile lowB with
      | nil => rfl
      | cons x r =>
        have h3 := dropWhile_head lowB _ _ _ hd
        rw [hd] at h1
        simp [h3] at h1
    have h4 := (dropWhile_nil lowB _).1 h2
    simpa using h4
  · intro h
    have h1 : l.reverse.all lowB = true := by simpa using h
    rw [(dropWhile_nil lowB _).2 h1]
    rfl
def okKind (k : List UInt8) : Bool := !k.isEmpty && k.all lowB
/-- The last k digits of a number. -/
def digK : Nat → Nat → List UInt8
  | 0, _ => []
  | k + 1, n => digK k (n / 10) ++ [u8 (48 + n % 10)]
theorem digK_len : ∀ k n, (digK k n).length = k
  | 0, _ => rfl
  | k + 1, n => by simp [digK, digK_len k]
theorem digK_zero : ∀ k, digK k 0 = List.replicate k 48
  | 0 => rfl
  | k + 1 => by
    rw [digK, Nat.zero_div, digK_zero k, List.replicate_succ']
    rfl
theorem digK_pad : ∀ (k n : Nat), n < 10 ^ (k + 1) → (Lib.decDigits n).length ≤ k + 1 ∧ List.replicate (k + 1 - (Lib.decDigits n).length) 48 ++ Lib.decDigits n = digK (k + 1) n
  | k, n, h => by
    by_cases h10 : n < 10
    · have e : Lib.decDigits n = [UInt8.ofNat (48 + n)] := by rw [Lib.decDigits, dif_pos h10]
      rw [e, digK, Nat.div_eq_of_lt h10, digK_zero, Nat.mod_eq_of_lt h10]
      exact ⟨by simp, rfl⟩
    · have e : Lib.decDigits n = Lib.decDigits (n / 10) ++ [UInt8.ofNat (48 + n % 10)] := by rw [Lib.decDigits, dif_neg h10]
      obtain ⟨j, rfl⟩ : ∃ j, k = j + 1 := by
        cases k with
        | zero => simp at h; omega
        | succ j => exact ⟨j, rfl⟩
      have hd : n / 10 < 10 ^ (j + 1) := by
        rw [Nat.pow_succ] at h
        exact Nat.div_lt_of_lt_mul (by rw [Nat.mul_comm]; exact h)
      obtain ⟨h1, h2⟩ := digK_pad j (n / 10) hd
      rw [e, List.length_append, List.length_singleton, digK, ← h2]
      refine ⟨by omega, ?_⟩
      rw [← List.append_assoc]
      congr 2
      congr 1
      omega
theorem repeat_one (b : UInt8) : ∀ c, Lib.repeatL [b] c = List.replicate c b
  | 0 => rfl
  | c + 1 => by rw [Lib.repeatL, repeat_one b c]; rfl
theorem pad8 {n : Nat} (h : n < 100000000) : (Lib.decDigits n).length ≤ 8 ∧ Lib.repeatL [48] (8 - (Lib.decDigits n).length) ++ Lib.decDigits n = digK 8 n := by
  rw [repeat_one]
  exact digK_pad 7 n (by omega)
def isDig (b : UInt8) : Bool := decide (48 ≤ b.toNat) && decide (b.toNat ≤ 57)
theorem digK_all : ∀ k n, (digK k n).all isDig = true
  | 0, _ => rfl
  | k + 1, n => by
    rw [digK, List.all_append, digK_all k]
    have : isDig (u8 (48 + n % 10)) = true := by
      unfold isDig
      rw [u8_nat (by omega)]
      simp
      omega
    simp [this]
def valFrom (acc : Nat) (l : List UInt8) : Nat := l.foldl (fun a b => 10 * a + (b.toNat - 48)) acc
theorem val_append (acc : Nat) (l m : List UInt8) : valFrom acc (l ++ m) = valFrom (valFrom acc l) m := by simp [valFrom]
theorem val_digK : ∀ k n, valFrom 0 (digK k n) = n % 10 ^ k
  | 0, n => by simp [digK, valFrom]; omega
  | k + 1, n => by
    rw [digK, val_append, val_digK k]
    show 10 * (n / 10 % 10 ^ k) + ((u8 (48 + n % 10)).toNat - 48) = _
    rw [u8_nat (by omega), Nat.pow_succ', Nat.mod_mul]
    omega
/-- The name of a file of this kind and number; nothing where there is none. -/
def fileL (k : List UInt8) (n : Int) : List UInt8 := if okKind k = true ∧ 0 ≤ n ∧ n ≤ 99999999 then k ++ 45 :: digK 8 n.toNat else []
/-- The number of a name of this kind. -/
def numL (k s : List UInt8) : Int × Bool := if s.length = k.length + 9 ∧ (s.drop (k.length + 1)).all isDig = true ∧ fileL k (valFrom 0 (s.drop (k.length + 1)) : Nat) = s then ((valFrom 0 (s.drop (k.length + 1)) : Nat), true) else (0, false)
theorem numL_of {k s : List UInt8} {n : Int} (h : fileL k n = s) (hs : s ≠ []) : okKind k = true ∧ 0 ≤ n ∧ n ≤ 99999999 ∧ s = k ++ 45 :: digK 8 n.toNat ∧ s.drop (k.length + 1) = digK 8 n.toNat ∧ numL k s = (n, true) := by
  have h0 := h
  unfold fileL at h
  split at h
  case isFalse => exact absurd h.symm hs
  rename_i hc
  obtain ⟨h1, h2, h3⟩ := hc
  have hd : s.drop (k.length + 1) = digK 8 n.toNat := by
    rw [← h, ← List.drop_drop, List.drop_left]
    rfl
  have hv : ((valFrom 0 (digK 8 n.toNat) : Nat) : Int) = n := by
    rw [val_digK, Nat.mod_eq_of_lt (by omega)]
    omega
  refine ⟨h1, h2, h3, h.symm, hd, ?_⟩
  unfold numL
  rw [hd, hv, if_pos ⟨by rw [← h]; simp [digK_len], digK_all _ _, h0⟩]
theorem parse_digits (M : Nat) (hM : 18446744073709551615 ≤ M) : ∀ (l : List UInt8) (acc : Nat), l.all isDig = true → (acc + 1) * 10 ^ l.length ≤ 100000000000000000 → Lib.parseUintM M acc l = .ok (valFrom acc l)
  | [], acc, _, _ => rfl
  | b :: r, acc, h, hb => by
    simp only [List.all_cons, Bool.and_eq_true] at h
    have hd : 48 ≤ b.toNat ∧ b.toNat ≤ 57 := by simpa [isDig] using h.1
    have hp : 0 < 10 ^ r.length := Nat.pow_pos (by omega)
    have hle : (acc + 1) * 10 ≤ 100000000000000000 := by
      refine Nat.le_trans ?_ hb
      rw [List.length_cons, Nat.pow_succ', ← Nat.mul_assoc]
      exact Nat.le_mul_of_pos_right _ hp
    unfold Lib.parseUintM
    rw [if_pos hd, if_neg (by omega), if_neg (by omega)]
    have ih := parse_digits M hM r (acc * 10 + (b.toNat - 48)) h.2 (by
      refine Nat.le_trans (Nat.mul_le_mul_right _ (show acc * 10 + (b.toNat - 48) + 1 ≤ (acc + 1) * 10 by omega)) ?_
      rw [Nat.mul_assoc, ← Nat.pow_succ']
      exact hb)
    rw [ih]
    show _ = Lib.NumEnd.ok (valFrom (10 * acc + (b.toNat - 48)) r)
    rw [Nat.mul_comm acc 10]
theorem parse_digK (n : Nat) (h : n < 100000000) : Lib.parseIntB 64 (digK 8 n) = .ok (n : Int) := by
  have hall := digK_all 8 n
  have hlen := digK_len 8 n
  have hv := val_digK 8 n
  rw [Nat.mod_eq_of_lt (by omega)] at hv
  cases hl : digK 8 n with
  | nil => rw [hl] at hlen; simp at hlen
  | cons c r =>
    rw [hl] at hall hlen hv
    have hc : 48 ≤ c.toNat ∧ c.toNat ≤ 57 := by
      simp only [List.all_cons, Bool.and_eq_true] at hall
      simpa [isDig] using hall.1
    have hp : Lib.parseUintB 64 (c :: r) = .ok n := by
      unfold Lib.parseUintB
      rw [if_neg (by simp), parse_digits _ (by decide) _ 0 hall (by rw [hlen]; decide), hv]
    unfold Lib.parseIntB
    simp only
    rw [if_neg (by omega), hp]
    simp only
    rw [if_neg (by simp; omega), if_neg (by simp; omega), if_neg (by omega)]
/-- The program's way to a name's number. -/
theorem num_prog (k s : List UInt8) : numL k s = if Lib.hasPrefix s (k ++ [45]) = true ∧ (Lib.trimPrefix s (k ++ [45])).length = 8 then
      (match Lib.parseIntB 64 (Lib.trimPrefix s (k ++ [45])) with | .ok v => if fileL k v = s then (v, true) else (0, false) | _ => (0, false)) else (0, false) := by
  by_cases hn : ∃ n, fileL k n = s ∧ s ≠ []
  · obtain ⟨n, h, hs⟩ := hn
    obtain ⟨h1, h2, h3, h4, h5, h6⟩ := numL_of h hs
    have hp : Lib.hasPrefix s (k ++ [45]) = true := by
      unfold Lib.hasPrefix
      rw [List.isPrefixOf_iff_prefix]
      exact ⟨digK 8 n.toNat, by rw [h4]; simp⟩
    have ht : Lib.trimPrefix s (k ++ [45]) = digK 8 n.toNat := by
      unfold Lib.trimPrefix
      rw [if_pos hp, ← h5]
      simp
    rw [h6, ht, if_pos ⟨hp, digK_len _ _⟩, parse_digK _ (by omega)]
    simp only
    rw [Int.toNat_of_nonneg h2, if_pos h]
  · have hl : numL k s = (0, false) := by
      unfold numL
      rw [if_neg]
      rintro ⟨h1, _, h3⟩
      exact hn ⟨_, h3, fun e => by rw [e] at h1; simp at h1⟩
    rw [hl]
    split
    · rename_i hc
      have hs : s ≠ [] := fun e => by
        subst e
        have := hc.1
        unfold Lib.hasPrefix at this
        rw [List.isPrefixOf_iff_prefix] at this
        have := this.length_le
        simp at this
      split
      · rw [if_neg]
        exact fun e => hn ⟨_, e, hs⟩
      · rfl
    · rfl
end Go.Proofs.YtahahginmgidjaaGreatDoor
namespace Go.Proofs.YtahahginmgidjaaGreatDoor
open Go.RowKit Go.Shelf
set_option linter.unusedVariables false
set_option linter.unusedSimpArgs false

/-- The library's table of powers of ten is as its text lays it. -/
def Tab (w : World) : Prop := Lib.TabIs Tryz.prog w "internal/strconv.uint64pow10" .u64 Lib.pow10Tab
theorem Tab.chg {w w' : World} (h : Tab w) (hc : Chg (fun _ => False) w w') : Tab w' := (Lib.tabBelow_of_tabIs h) w' hc.below
theorem ren_fmtM : Tryz.fmtIntM_ren.f 173 = 150 := by kernel_rfl
theorem fmt_any (n : Int) (h0 : 0 ≤ n) (h1 : n ≤ 9223372036854775807) (w : World) (ht : Tab w) : Calls Tryz.prog 150 #[.int .i64 n, .int .i64 10] w fun e w' => e = .returned (.string ⟨(Lib.decDigits n.toNat).toArray⟩) ∧ Chg (fun _ => False) w w' := by
  have h := Any.strconv_FormatInt_10 Tryz.fmtIntM n (by omega) h1 w ht
  rw [ren_fmtM] at h
  refine h.mono fun e w' ⟨he, k, os, hw⟩ => ⟨?_, ?_⟩
  · rw [he]
    unfold Lib.itoa
    rw [if_neg (by omega)]
  · subst hw
    exact Chg.of_below ⟨rfl, rfl, rfl, by show w.heap.size ≤ (w.heap ++ os).size; rw [Array.size_append]; omega, fun j hj => Lib.heap_grow_old w k os j (by omega)⟩
theorem str_trim_any (s : ByteArray) (w : World) (hs : s.size ≤ maxLen) : Calls Tryz.prog 149 #[.string s, .string letters] w fun e w' => e = .returned (.string ⟨(Lib.trimS s.data.toList letters.data.toList).toArray⟩) ∧ Chg (fun _ => False) w w' := by
  unfold maxLen at hs
  have h := Any.strings_Trim_laid Tryz.strTrim (by kernel_rfl) s letters w (by omega) (by decide) (ascii_of_all (by decide))
  rw [ren_trim] at h
  exact h.mono fun e w' ⟨he, hb⟩ => ⟨he, Chg.of_below hb⟩
def fileB (k : ByteArray) (n : Int) : ByteArray := ⟨(fileL k.data.toList n).toArray⟩
theorem isE (b : ByteArray) : b.toList.isEmpty = b.data.toList.isEmpty := by rw [ByteArray.toList_eq]
theorem trim_test (k : ByteArray) : (⟨(Lib.trimS k.data.toList letters.data.toList).toArray⟩ : ByteArray).toList.isEmpty = k.data.toList.all lowB := by
  rw [isE]
  have e : letters.data.toList = lettersL := rfl
  have h := trim_low k.data.toList
  rw [e]
  cases hx : k.data.toList.all lowB with
  | true => rw [h.2 hx]; rfl
  | false =>
    rw [List.isEmpty_eq_false_iff]
    intro h2
    rw [h.1 h2] at hx
    cases hx
theorem fileB_no {k : ByteArray} {n : Int} (h : ¬ (okKind k.data.toList = true ∧ 0 ≤ n ∧ n ≤ 99999999)) : fileB k n = ⟨#[]⟩ := by
  unfold fileB fileL
  rw [if_neg h]
theorem fileB_yes {k : ByteArray} {n : Int} (h : okKind k.data.toList = true ∧ 0 ≤ n ∧ n ≤ 99999999) : fileB k n = k ++ ⟨#[45]⟩ ++ ⟨(digK 8 n.toNat).toArray⟩ := by
  unfold fileB fileL
  rw [if_pos h]
  apply ByteArray.ext
  simp
theorem file_prog {k : ByteArray} {n : Int} (h : okKind k.data.toList = true ∧ 0 ≤ n ∧ n ≤ 99999999) : fileB k n = k ++ ⟨#[45]⟩ ++ ⟨(Lib.repeatL [48] (8 - (Lib.decDigits n.toNat).length)).toArray⟩ ++ ⟨(Lib.decDigits n.toNat).toArray⟩ := by
  unfold fileB fileL
  rw [if_pos h, ← (pad8 (show n.toNat < 100000000 by omega)).2]
  apply ByteArray.ext
  simp
set_option maxRecDepth 100000 in
set_option maxHeartbeats 2000000 in
theorem wal_file (k : ByteArray) (n : Int) (hk : k.size ≤ 140737488351232) (h0 : -9223372036854775808 ≤ n) (h1 : n ≤ 9223372036854775807) (w : World) (ht : Tab w) :
    Calls Tryz.prog 102 #[.string k, .int .i64 n] w fun e w' => e = .returned (.string (fileB k n)) ∧ Chg (fun _ => False) w w' := by
  have htr := fun w => str_trim_any k w (by unfold maxLen; omega)
  have hte := trim_test k
  obtain ⟨t, htt⟩ : ∃ t, (⟨(Lib.trimS k.data.toList letters.data.toList).toArray⟩ : ByteArray) = t := ⟨_, rfl⟩
  rw [htt] at htr hte
  have HTR := Lib.hid htr
  have HT := Lib.hid ht
  clear htr htt ht
  cases hke : k.toList.isEmpty with
  | true =>
    have hno : fileB k n = ⟨#[]⟩ := fileB_no (by
      rintro ⟨h, _⟩
      unfold okKind at h
      rw [← isE, hke] at h
      simp at h)
    rw [hno]
    clear hno hte
    go_enter Tryz.func102, Tryz.ntmps102
    go_wp2_with fail
    go_ret
    exact ⟨rfl, Chg.refl _ _⟩
  | false =>
    cases hall : k.data.toList.all lowB with
    | false =>
      have hno : fileB k n = ⟨#[]⟩ := fileB_no (by
        rintro ⟨h, _⟩
        unfold okKind at h
        rw [hall] at h
        simp at h)
      rw [hno]
      rw [hall] at hte
      clear hno hall
      go_enter Tryz.func102, Tryz.ntmps102
      go_wp2_with fail
      refine (HTR.out _).mono ?_
      rintro e w1 ⟨rfl, hc1⟩
      have HC1 := Lib.hid hc1
      clear hc1
      go_wp2_with fail
      go_ret
      exact ⟨rfl, HC1.out⟩
    | true =>
      rw [hall] at hte
      have hok : okKind k.data.toList = true := by
        unfold okKind
        rw [hall, ← isE, hke]
        rfl
      by_cases hn : 0 ≤ n ∧ n ≤ 99999999
      · obtain ⟨hn0, hn1⟩ := hn
        have hyes := file_prog ⟨hok, hn0, hn1⟩
        have hpad := (pad8 (show n.toNat < 100000000 by omega)).1
        have hfm := fun w ht => fmt_any n hn0 h1 w ht
        have hsz : (⟨(Lib.decDigits n.toNat).toArray⟩ : ByteArray).size = (Lib.decDigits n.toNat).length := by simp [ByteArray.size]
        obtain ⟨ds, hds⟩ : ∃ ds, (⟨(Lib.decDigits n.toNat).toArray⟩ : ByteArray) = ds := ⟨_, rfl⟩
        obtain ⟨m, hm⟩ : ∃ m, (Lib.decDigits n.toNat).length = m := ⟨_, rfl⟩
        rw [hds, hm] at hsz
        rw [hds] at hfm
        rw [hds, hm] at hyes
        rw [hm] at hpad
        have hrp := fun w => str_rep ⟨#[48]⟩ (8 - m) w (by show 1 * (8 - m) ≤ _; omega) (by omega)
        have hrz : (⟨(Lib.repeatL [48] (8 - m)).toArray⟩ : ByteArray).size = 8 - m := by simp [ByteArray.size, Lib.repeatL_length]
        obtain ⟨rp, hrpe⟩ : ∃ rp, (⟨(Lib.repeatL [48] (8 - m)).toArray⟩ : ByteArray) = rp := ⟨_, rfl⟩
        have hrp : ∀ w, Calls Tryz.prog 151 #[.string ⟨#[48]⟩, .int .i64 ((8 - m : Nat) : Int)] w fun e w' => e = .returned (.string rp) ∧ Chg (fun _ => False) w w' := fun w => by
          rw [← hrpe]
          exact hrp w
        rw [hrpe] at hyes hrz
        rw [hyes]
        have HRZ := Lib.hid hrz
        have HFM := Lib.hid hfm
        have HRP := Lib.hid hrp
        have HSZ := Lib.hid hsz
        clear hfm hrp hyes hds hm hall hok hsz hrpe hrz
        have e8 : (8 : Int) - (m : Int) = ((8 - m : Nat) : Int) := by omega
        have hd1 : decide (n < 0) = false := by simp; omega
        have hd2 : decide (n > 99999999) = false := by simp; omega
        go_enter Tryz.func102, Tryz.ntmps102
        go_wp2_with fail
        refine (HTR.out _).mono ?_
        rintro e w1 ⟨rfl, hc1⟩
        have HC1 := Lib.hid hc1
        have HT1 := Lib.hid (HT.out.chg hc1)
        clear hc1
        go_wp2_with fail
        refine (HFM.out _ HT1.out).mono ?_
        rintro e w2 ⟨rfl, hc2⟩
        have HC2 := Lib.hid (HC1.out.then hc2)
        have hsz := HSZ.out
        clear hc2
        go_wp2_with fail
        refine (HRP.out _).mono ?_
        rintro e w3 ⟨rfl, hc3⟩
        have HC3 := Lib.hid (HC2.out.then hc3)
        have hrz := HRZ.out
        clear hc3
        go_wp2_with fail
        go_ret
        exact ⟨rfl, HC3.out⟩
      · have hno : fileB k n = ⟨#[]⟩ := fileB_no (by
          rintro ⟨_, h⟩
          exact hn h)
        rw [hno]
        clear hno hall hok
        go_enter Tryz.func102, Tryz.ntmps102
        go_wp2_with fail
        refine (HTR.out _).mono ?_
        rintro e w1 ⟨rfl, hc1⟩
        have HC1 := Lib.hid hc1
        clear hc1
        go_wp2_with fail
        all_goals first | (exfalso; omega) | (go_ret; exact ⟨rfl, HC1.out⟩)
end Go.Proofs.YtahahginmgidjaaGreatDoor
namespace Go.Proofs.YtahahginmgidjaaGreatDoor
open Go.RowKit
set_option linter.unusedVariables false
set_option linter.unusedSimpArgs false

/-- One call, and another behind it if it answers nothing. -/
def andV (x : Int × DiskV) (f : DiskV → Int × DiskV) : Int × DiskV := if x.1 ≠ 0 then x else f x.2
def writeM (D : DiskV) (n s : ByteArray) : Int × DiskV := andV (appendD D n s) fun D => syncD D n
def createM (D : DiskV) (n s : ByteArray) : Int × DiskV := andV (createD D n) fun D => writeM D n s
def nextB : ByteArray := ⟨#[99, 117, 114, 114, 101, 110, 116, 45, 110, 101, 120, 116]⟩
def curB : ByteArray := ⟨#[99, 117, 114, 114, 101, 110, 116]⟩
def kindB : ByteArray := ⟨#[109, 97, 110, 105, 102, 101, 115, 116]⟩
def logK : ByteArray := ⟨#[108, 111, 103]⟩
def tableK : ByteArray := ⟨#[116, 97, 98, 108, 101]⟩
theorem andV_no {x : Int × DiskV} {f : DiskV → Int × DiskV} (h : x.1 ≠ 0) : andV x f = x := if_pos h
theorem andV_yes {x : Int × DiskV} {f : DiskV → Int × DiskV} (h : x.1 = 0) : andV x f = f x.2 := if_neg (by simp [h])
theorem psm_and {m k : Nat} {x : Int × DiskV} {f : DiskV → Int × DiskV} (h : PSm m x.2) (hk : PSm (m + k) (f x.2).2) : PSm (m + k) (andV x f).2 := by
  unfold andV
  split
  · exact ⟨by have := h.f; omega, by have := h.n; omega, by have := h.l; omega, h.s, h.an, h.al⟩
  · exact hk
theorem PSm.by_ {m k : Nat} {D : DiskV} (h : PSm m D) (hk : m ≤ k) : PSm k D := ⟨by have := h.f; omega, by have := h.n; omega, by have := h.l; omega, h.s, h.an, h.al⟩
theorem PSm.ds {m : Nat} {D : DiskV} (h : PSm m D) (hm : m ≤ 100000) : DSmall D := ⟨by have := h.l; omega, by have := h.f; omega, by have := h.n; omega⟩
theorem psm_write {m : Nat} {D : DiskV} (n s : ByteArray) (h : PSm m D) : PSm (m + 2) (writeM D n s).2 := by
  have h1 : PSm (m + 1) (appendD D n s).2 := p_bsm_append n s h
  exact psm_and (k := 1) h1 (p_bsm_sync n h1)
theorem psm_make {m : Nat} {D : DiskV} (n s : ByteArray) (h : PSm m D) : PSm (m + 3) (createM D n s).2 := by
  have h1 : PSm (m + 1) (createD D n).2 := p_bsm_create n h
  exact psm_and (k := 2) h1 (psm_write n s h1)
theorem psm_rename {m : Nat} {D : DiskV} (a b : ByteArray) (h : PSm m D) : PSm (m + 1) (renameD D a b).2 := by
  unfold renameD
  split
  · exact h.up
  split
  · rename_i i hi
    split
    · refine p_bsm_change h ?_ true
      unfold renameA
      split
      · exact (p_bsm_trap h).up
      · exact p_bsm_rename1 _ (by simp) (p_bsm_trap h)
    · exact h.up
  · exact h.up
end Go.Proofs.YtahahginmgidjaaGreatDoor
namespace Go.Proofs.YtahahginmgidjaaGreatDoor
open Go.RowKit
set_option linter.unusedVariables false
set_option linter.unusedSimpArgs false

abbrev FnV := Nat × Array Value × Array Value
def callC : Codec FnV := ⟨fun x => [.func (.func x.1) x.2.1 x.2.2], 1, 111, 113, .nilFunc, 8⟩
theorem callOk : callC.Ok := ⟨fun _ => rfl, by decide, fun x v hv => by simp [callC] at hv; subst hv; rfl, Tryz.underlying113, by kernel_rfl, rfl, by decide⟩
def Enters (l : List FnV) : Prop := ∀ x ∈ l, ∀ W : World, (callFunc x.1 (x.2.1 ++ x.2.2)).run Tryz.prog W = .ok (.enter x.1 (x.2.1 ++ x.2.2)) W
set_option maxRecDepth 100000 in
set_option maxHeartbeats 2000000 in
theorem ma_all (l : List FnV) (v : Value) (St : Nat → World → Prop) (Q : Int → World → Prop) (w : World) (h0 : St 0 w) (hl : l.length ≤ 1000)
    (hv : ∀ i W, St i W → Lst callC W v l) (hen : Enters l)
    (hs : ∀ i x, l[i]? = some x → ∀ W, St i W → Calls Tryz.prog x.1 (x.2.1 ++ x.2.2) W fun e w' => ∃ m : Int, e = .returned (.int .i64 m) ∧ ((m ≠ 0 ∧ Q m w') ∨ (m = 0 ∧ St (i + 1) w'))) :
    Calls Tryz.prog 41 #[v] w fun e w' => ∃ m : Int, e = .returned (.int .i64 m) ∧ ((m ≠ 0 ∧ Q m w') ∨ (m = 0 ∧ St l.length w')) := by
  obtain ⟨a, cap, rfl, _, _, _⟩ := (hv 0 w h0).form callOk
  have H0 := Lib.hid h0
  have HV := Lib.hid hv
  have HEN := Lib.hid hen
  have HS := Lib.hid hs
  clear h0 hv hen hs
  go_enter Tryz.func41, Tryz.ntmps41
  go_wp2_with fail
  go_loopw [8] (fun i wr => ∃ k : Nat, i = .int .i64 (k : Int) ∧ k ≤ l.length ∧ St k wr) (fun i _ => l.length - (intOf i).toNat)
  case atStart => exact ⟨0, rfl, Nat.zero_le _, H0.out⟩
  case round =>
    obtain ⟨k, rfl, hk, hst⟩ := hrel
    by_cases hlt : k < l.length
    · obtain ⟨⟨K, A, C⟩, hx⟩ : ∃ x, l[k]? = some x := ⟨l[k], List.getElem?_eq_getElem hlt⟩
      obtain ⟨hA, hB⟩ : l = l.take k ++ (K, A, C) :: l.drop (k + 1) ∧ (l.take k).length = k := by
        refine ⟨?_, by simp; omega⟩
        have : (K, A, C) = l[k] := by rw [List.getElem?_eq_getElem hlt] at hx; exact (Option.some.inj hx).symm
        rw [this]
        rw [List.getElem_cons_drop, List.take_append_drop]
      obtain ⟨a', cap', hva, _, _, hr⟩ := (HV.out _ _ hst).form callOk
      injection hva with e1 e2 e3
      subst e1 e3
      obtain ⟨b, rfl, hb, _, hcell⟩ := hr _ _ _ hA
      have x0 := hcell 0 _ rfl
      rw [hB] at x0
      simp only [callC, Nat.mul_one, Nat.add_zero] at x0
      have hcf := HEN.out (K, A, C) (List.mem_of_getElem? hx)
      have hcall := HS.out k (K, A, C) hx _ hst
      have HCALL := Lib.hid hcall
      have hq : decide ((k : Int) < (l.length : Int)) = true := by simp; omega
      clear hcall hst hr hcell hA hB
      go_wp2_with fail
      refine HCALL.out.mono ?_
      rintro e w1 ⟨m, rfl, hm⟩
      rcases hm with ⟨hn, hq⟩ | ⟨rfl, hq⟩
      · have hn1 : (m != 0) = true := by simp [hn]
        have hn2 : (m == 0) = false := by simp [hn]
        have HQ := Lib.hid hq
        clear hq
        go_wp2_with fail
        go_ret
        exact ⟨m, rfl, .inl ⟨hn, HQ.out⟩⟩
      · have HQ := Lib.hid hq
        clear hq
        have hi := IntWalk.i64_in ((k : Int) + 1) (by omega)
        go_wp2_with fail
        go_roundw
        · exact ⟨k + 1, by simp, by omega, HQ.out⟩
        · simp [intOf]; omega
    · have hke : k = l.length := by omega
      subst hke
      have hq : decide ((l.length : Int) < (l.length : Int)) = false := by simp
      have HQ := Lib.hid hst
      clear hst
      go_wp2_with fail
      go_ret
      exact ⟨0, rfl, .inr ⟨rfl, HQ.out⟩⟩
set_option maxRecDepth 100000 in
set_option maxHeartbeats 2000000 in
theorem ma_write (n s : ByteArray) (d : Nat) (w : World) :
    Calls Tryz.prog 53 #[.pointer (some ⟨d, 0, none⟩), .string n, .string s] w fun e w' => ∃ bd bn bs, e = .returned (.func (.func 116) #[] #[.pointer (some ⟨bd, 0, none⟩), .pointer (some ⟨bn, 0, none⟩), .pointer (some ⟨bs, 0, none⟩)]) ∧ Blk w' bd 24 #[.pointer (some ⟨d, 0, none⟩)] ∧ Blk w' bn 9 #[.string n] ∧ Blk w' bs 9 #[.string s] ∧ w.heap.size ≤ bd ∧ w.heap.size ≤ bn ∧ w.heap.size ≤ bs ∧ Chg (fun _ => False) w w' := by
  go_enter Tryz.func53, Tryz.ntmps53
  go_wp2_with fail
  go_ret
  exact ⟨_, _, _, rfl, ((Blk.new w _ _).alloc _).alloc _, (Blk.new1 w _ _ _).alloc _, Blk.new2 w _ _ _ _, by omega, by omega, by omega, (((Chg.refl _ _).alloc _).alloc _).alloc _⟩
set_option maxRecDepth 100000 in
set_option maxHeartbeats 2000000 in
theorem ma_create (n s : ByteArray) (d : Nat) (w : World) :
    Calls Tryz.prog 38 #[.pointer (some ⟨d, 0, none⟩), .string n, .string s] w fun e w' => ∃ bd bn bs, e = .returned (.func (.func 106) #[] #[.pointer (some ⟨bd, 0, none⟩), .pointer (some ⟨bn, 0, none⟩), .pointer (some ⟨bs, 0, none⟩)]) ∧ Blk w' bd 24 #[.pointer (some ⟨d, 0, none⟩)] ∧ Blk w' bn 9 #[.string n] ∧ Blk w' bs 9 #[.string s] ∧ w.heap.size ≤ bd ∧ w.heap.size ≤ bn ∧ w.heap.size ≤ bs ∧ Chg (fun _ => False) w w' := by
  go_enter Tryz.func38, Tryz.ntmps38
  go_wp2_with fail
  go_ret
  exact ⟨_, _, _, rfl, ((Blk.new w _ _).alloc _).alloc _, (Blk.new1 w _ _ _).alloc _, Blk.new2 w _ _ _ _, by omega, by omega, by omega, (((Chg.refl _ _).alloc _).alloc _).alloc _⟩
section
variable (n s : ByteArray) (hn : n.size ≤ maxLen) (hs : s.size ≤ 140737488355328) (d bd bn bs : Nat) (D : DiskV) (Y : Nat → Prop) (w0 w : World) (h : DY w0 w d D Y) (hb : Blk w bd 24 #[.pointer (some ⟨d, 0, none⟩)]) (hbn : Blk w bn 9 #[.string n]) (hbs : Blk w bs 9 #[.string s])
include hn h hb hbn
set_option maxRecDepth 100000 in
set_option maxHeartbeats 2000000 in
include hs hbs in
theorem ma_write_a (hD : DSmall D) : Calls Tryz.prog 117 #[.pointer (some ⟨bd, 0, none⟩), .pointer (some ⟨bn, 0, none⟩), .pointer (some ⟨bs, 0, none⟩)] w (YPost w0 w d Y (appendD D n s)) := by
  have hc := y_append w0 d D Y n hn hD w h s hs
  have x0 := hb.cell 0
  have x1 := hbn.cell 0
  have x2 := hbs.cell 0
  simp at x0 x1 x2
  have HC := Lib.hid hc
  clear hc h hb hbn hbs hD
  go_enter Tryz.func117, Tryz.ntmps117
  go_wp2_with fail
  refine HC.out.mono ?_
  rintro e w1 ⟨rfl, hd⟩
  have HD := Lib.hid hd
  clear hd
  go_wp2_with fail
  go_ret
  exact ⟨rfl, HD.out⟩
set_option maxRecDepth 100000 in
set_option maxHeartbeats 2000000 in
theorem ma_write_s (hD : DSmall D) : Calls Tryz.prog 118 #[.pointer (some ⟨bd, 0, none⟩), .pointer (some ⟨bn, 0, none⟩)] w (YPost w0 w d Y (syncD D n)) := by
  have hc := y_sync w0 d D Y n hn hD w h
  have x0 := hb.cell 0
  have x1 := hbn.cell 0
  simp at x0 x1
  have HC := Lib.hid hc
  clear hc h hb hbn hD
  go_enter Tryz.func118, Tryz.ntmps118
  go_wp2_with fail
  refine HC.out.mono ?_
  rintro e w1 ⟨rfl, hd⟩
  have HD := Lib.hid hd
  clear hd
  go_wp2_with fail
  go_ret
  exact ⟨rfl, HD.out⟩
set_option maxRecDepth 100000 in
set_option maxHeartbeats 2000000 in
theorem ma_create_c (hD : DSmall D) : Calls Tryz.prog 107 #[.pointer (some ⟨bd, 0, none⟩), .pointer (some ⟨bn, 0, none⟩)] w (YPost w0 w d Y (createD D n)) := by
  have hc := y_create w0 d D Y n hn hD w h
  have x0 := hb.cell 0
  have x1 := hbn.cell 0
  simp at x0 x1
  have HC := Lib.hid hc
  clear hc h hb hbn hD
  go_enter Tryz.func107, Tryz.ntmps107
  go_wp2_with fail
  refine HC.out.mono ?_
  rintro e w1 ⟨rfl, hd⟩
  have HD := Lib.hid hd
  clear hd
  go_wp2_with fail
  go_ret
  exact ⟨rfl, HD.out⟩
end
end Go.Proofs.YtahahginmgidjaaGreatDoor
