/-
  Frames as plain bytes: what Put makes, what Get and All find. Plain Lean; no program; no condition.
  The program's frame: Sum.
-/
import Derived.Test.YtjfbcjmnjlehaaaGreatDoorZMg01
import Derived.Test.YtjfbcjmnjlehaaaGreatDoorZMg00
import Derived.Test.YtjfbcjmnjlehaaaGreatDoorProg
import Derived.IntWalk
import Derived.Laws.BitsAllLaws
namespace Go.Proofs.YtjfbcjmnjlehaaaGreatDoor
set_option linter.unusedVariables false
set_option linter.unusedSimpArgs false

def u8 (n : Nat) : UInt8 := UInt8.ofNat n
def fraHead (n c : Nat) : List UInt8 := [u8 (n / 256), u8 (n % 256), u8 (255 - n / 256), u8 (255 - n % 256), u8 (c / 16777216), u8 (c / 65536 % 256), u8 (c / 256 % 256), u8 (c % 256)]
/-- The frame of a body. -/
def fraB (b : List UInt8) : List UInt8 := fraHead b.length (crcSum b) ++ b
theorem u8_nat {n : Nat} (h : n < 256) : (u8 n).toNat = n := by
  unfold u8
  rw [UInt8.toNat_ofNat']
  omega
theorem fraB_len (b : List UInt8) : (fraB b).length = 8 + b.length := by
  unfold fraB fraHead
  rw [List.length_append]
  rfl
/-- The byte at a place, as a number. -/
def at8 (l : List UInt8) (i : Nat) : Nat := (l.getD i 0).toNat
def be4 (l : List UInt8) : Nat := at8 l 4 * 16777216 + at8 l 5 * 65536 + at8 l 6 * 256 + at8 l 7
def fraN (l : List UInt8) : Nat := at8 l 0 * 256 + at8 l 1
def fraBody (l : List UInt8) : List UInt8 := (l.drop 8).take (fraN l)
/-- What stands at the beginning of bytes: 0 and a body; or why there is none (10 nothing, 3 too short, 4 no head, 6 another sum). -/
def getF (l : List UInt8) : Nat :=
  if l.length = 0 then 10 else if l.length < 4 then 3 else
  if ¬ (at8 l 0 + at8 l 2 = 255 ∧ at8 l 1 + at8 l 3 = 255) then 4 else
  if l.length < 8 + fraN l then 3 else
  if be4 l ≠ crcSum (fraBody l) then 6 else 0
theorem getF_zero {l : List UInt8} (h : getF l = 0) : l.length ≠ 0 ∧ 8 + fraN l ≤ l.length ∧ be4 l = crcSum (fraBody l) ∧ (fraBody l).length = fraN l := by
  unfold getF at h
  split at h
  · cases h
  split at h
  · cases h
  split at h
  · cases h
  split at h
  · cases h
  split at h
  · cases h
  rename_i h0 h1 h2 h3 h4
  refine ⟨h0, by omega, by simpa using h4, ?_⟩
  unfold fraBody
  rw [List.length_take, List.length_drop]
  omega
/-- All bodies, and why they end. -/
def allF (l : List UInt8) : List (List UInt8) × Nat :=
  if h : getF l = 0 then
    have : (l.drop (8 + fraN l)).length < l.length := by
      have := getF_zero h
      rw [List.length_drop]; omega
    (fraBody l :: (allF (l.drop (8 + fraN l))).1, (allF (l.drop (8 + fraN l))).2)
  else ([], getF l)
termination_by l.length
theorem allF_yes {l : List UInt8} (h : getF l = 0) : allF l = (fraBody l :: (allF (l.drop (8 + fraN l))).1, (allF (l.drop (8 + fraN l))).2) := by
  rw [allF, dif_pos h]
theorem allF_no {l : List UInt8} (h : getF l ≠ 0) : allF l = ([], getF l) := by
  rw [allF, dif_neg h]
theorem at8_lt (l : List UInt8) (i : Nat) : at8 l i < 256 := (l.getD i 0).toNat_lt
/-- Bytes that begin as a frame does, up to a place behind its head's first half. -/
theorem head_at (b t : List UInt8) {i : Nat} (hi : i < 8) : at8 (fraB b ++ t) i = at8 (fraHead b.length (crcSum b)) i := by
  unfold at8 fraB
  rw [List.append_assoc]
  congr 1
  simp only [List.getD]
  rw [List.getElem?_append_left (show i < (fraHead b.length (crcSum b)).length from hi)]
theorem getD_take {l : List UInt8} {k i : Nat} (hi : i < k) : (l.take k).getD i 0 = l.getD i 0 := by
  simp [List.getD, List.getElem?_take, hi]
theorem fraN_of {l b : List UInt8} (hb : b.length ≤ 65535) (h0 : at8 l 0 = at8 (fraHead b.length (crcSum b)) 0) (h1 : at8 l 1 = at8 (fraHead b.length (crcSum b)) 1) : fraN l = b.length := by
  unfold fraN
  rw [h0, h1]
  show (u8 (b.length / 256)).toNat * 256 + (u8 (b.length % 256)).toNat = b.length
  rw [u8_nat (by omega), u8_nat (by omega)]
  omega
theorem head_ok {l b : List UInt8} (hb : b.length ≤ 65535) (h : ∀ i, i < 4 → at8 l i = at8 (fraHead b.length (crcSum b)) i) : at8 l 0 + at8 l 2 = 255 ∧ at8 l 1 + at8 l 3 = 255 := by
  rw [h 0 (by omega), h 1 (by omega), h 2 (by omega), h 3 (by omega)]
  show (u8 (b.length / 256)).toNat + (u8 (255 - b.length / 256)).toNat = 255 ∧ (u8 (b.length % 256)).toNat + (u8 (255 - b.length % 256)).toNat = 255
  rw [u8_nat (by omega), u8_nat (by omega), u8_nat (by omega), u8_nat (by omega)]
  omega
theorem be4_of {l b : List UInt8} (h : ∀ i, i < 8 → at8 l i = at8 (fraHead b.length (crcSum b)) i) : be4 l = crcSum b := by
  unfold be4
  rw [h 4 (by omega), h 5 (by omega), h 6 (by omega), h 7 (by omega)]
  have := crcSum_lt b
  show (u8 (crcSum b / 16777216)).toNat * 16777216 + (u8 (crcSum b / 65536 % 256)).toNat * 65536 + (u8 (crcSum b / 256 % 256)).toNat * 256 + (u8 (crcSum b % 256)).toNat = _
  rw [u8_nat (by omega), u8_nat (by omega), u8_nat (by omega), u8_nat (by omega)]
  omega
/-- A frame is read back, whatever stands behind it. -/
theorem get_fra (b t : List UInt8) (hb : b.length ≤ 65535) : getF (fraB b ++ t) = 0 ∧ fraN (fraB b ++ t) = b.length ∧ fraBody (fraB b ++ t) = b := by
  have hh : ∀ i, i < 8 → at8 (fraB b ++ t) i = at8 (fraHead b.length (crcSum b)) i := fun i hi => head_at b t hi
  have hn := fraN_of hb (hh 0 (by omega)) (hh 1 (by omega))
  have hl : (fraB b ++ t).length = 8 + b.length + t.length := by rw [List.length_append, fraB_len]
  have hbody : fraBody (fraB b ++ t) = b := by
    unfold fraBody
    rw [hn]
    unfold fraB
    rw [List.append_assoc, List.drop_append_of_le_length (Nat.le_refl 8 : 8 ≤ (fraHead b.length (crcSum b)).length)]
    show (b ++ t).take b.length = b
    simp
  refine ⟨?_, hn, hbody⟩
  unfold getF
  rw [hbody, hn, be4_of hh, hl]
  rw [if_neg (by omega), if_neg (by omega), if_neg (fun h => h (head_ok hb fun i hi => hh i (by omega))), if_neg (by omega), if_neg (fun h => h rfl)]
theorem all_fra (b t : List UInt8) (hb : b.length ≤ 65535) : allF (fraB b ++ t) = (b :: (allF t).1, (allF t).2) := by
  obtain ⟨h1, h2, h3⟩ := get_fra b t hb
  rw [allF_yes h1, h2, h3]
  have : (fraB b ++ t).drop (8 + b.length) = t := by
    rw [← fraB_len b, List.drop_left]
  rw [this]
/-- Frames, one behind the other. -/
def frasB (l : List (List UInt8)) : List UInt8 := l.flatMap fraB
theorem all_fras : ∀ (l : List (List UInt8)) (t : List UInt8), (∀ b ∈ l, b.length ≤ 65535) → allF (frasB l ++ t) = (l ++ (allF t).1, (allF t).2)
  | [], t, _ => by simp [frasB]
  | b :: r, t, h => by
    have e : frasB (b :: r) ++ t = fraB b ++ (frasB r ++ t) := by simp [frasB]
    rw [e, all_fra b _ (h b (by simp)), all_fras r t fun x hx => h x (by simp [hx])]
    rfl
theorem all_nil : allF [] = ([], 10) := by
  rw [allF_no (by decide)]; rfl
/-- A beginning of a frame that is not whole: cut off. -/
theorem all_cut (b : List UInt8) (hb : b.length ≤ 65535) (k : Nat) (hk : k < 8 + b.length) (h0 : 0 < k) : allF ((fraB b).take k) = ([], 3) := by
  have hl : ((fraB b).take k).length = k := by rw [List.length_take, fraB_len]; omega
  have hg : getF ((fraB b).take k) = 3 := by
    unfold getF
    rw [hl, if_neg (by omega)]
    by_cases h4 : k < 4
    · rw [if_pos h4]
    · rw [if_neg h4]
      have hh : ∀ i, i < 4 → at8 ((fraB b).take k) i = at8 (fraHead b.length (crcSum b)) i := fun i hi => by
        have := head_at b [] (i := i) (by omega)
        rw [List.append_nil] at this
        rw [← this]
        unfold at8
        rw [getD_take (by omega)]
      rw [if_neg (fun h => h (head_ok hb hh)), fraN_of hb (hh 0 (by omega)) (hh 1 (by omega)), if_pos hk]
  rw [allF_no (by omega), hg]
/-- One byte of a frame turned: no body is found there, and it is told so. -/
theorem get_turned (b t : List UInt8) (hb : b.length ≤ 65535) {A B : List UInt8} {x y : UInt8} (hx : fraB b = A ++ x :: B) (hne : x ≠ y) :
    getF (A ++ y :: B ++ t) = 4 ∨ getF (A ++ y :: B ++ t) = 6 := by
  have hlen : A.length + 1 + B.length = 8 + b.length := by
    have := congrArg List.length hx
    rw [fraB_len] at this
    simp at this; omega
  have hl : (A ++ y :: B ++ t).length = 8 + b.length + t.length := by simp; omega
  have hold : ∀ i, at8 (A ++ x :: B ++ t) i = at8 (fraB b ++ t) i := fun i => by rw [hx]
  have hsame : ∀ i, i ≠ A.length → at8 (A ++ y :: B ++ t) i = at8 (fraB b ++ t) i := fun i hi => by
    rw [← hold]
    unfold at8
    congr 1
    by_cases h1 : i < A.length
    · simp [List.getD, List.getElem?_append_left h1]
    · have h2 : A.length < i := by omega
      obtain ⟨d, rfl⟩ : ∃ d, i = A.length + (d + 1) := ⟨i - A.length - 1, by omega⟩
      simp [List.getD, List.getElem?_append_right]
  have hthere : at8 (A ++ y :: B ++ t) A.length = y.toNat ∧ at8 (fraB b ++ t) A.length = x.toNat := by
    rw [hx]
    constructor <;> simp [at8, List.getD]
  have hxy : x.toNat ≠ y.toNat := fun e => hne (UInt8.toNat_inj.1 e)
  have hh : ∀ i, i < 8 → i ≠ A.length → at8 (A ++ y :: B ++ t) i = at8 (fraHead b.length (crcSum b)) i := fun i hi h => (hsame i h).trans (head_at b t hi)
  have hbit := head_ok hb (l := fraB b ++ t) fun i hi => head_at b t (by omega)
  unfold getF
  rw [hl, if_neg (by omega), if_neg (by omega)]
  by_cases h4 : A.length < 4
  · left
    rw [if_pos]
    rintro ⟨g1, g2⟩
    have h' := hthere
    have e0 := fun h => hsame 0 h
    have e1 := fun h => hsame 1 h
    have e2 := fun h => hsame 2 h
    have e3 := fun h => hsame 3 h
    obtain ⟨t1, t2⟩ := hthere
    match hA : A.length, h4 with
    | 0, _ => rw [hA] at t1 t2 e2; have := e2 (by omega); omega
    | 1, _ => rw [hA] at t1 t2 e3; have := e3 (by omega); omega
    | 2, _ => rw [hA] at t1 t2 e0; have := e0 (by omega); omega
    | 3, _ => rw [hA] at t1 t2 e1; have := e1 (by omega); omega
  · right
    have hh4 : ∀ i, i < 4 → at8 (A ++ y :: B ++ t) i = at8 (fraHead b.length (crcSum b)) i := fun i hi => hh i (by omega) (by omega)
    have hn := fraN_of hb (hh4 0 (by omega)) (hh4 1 (by omega))
    rw [if_neg (fun h => h (head_ok hb hh4)), hn, if_neg (by omega)]
    rw [if_pos]
    by_cases h8 : A.length < 8
    · have hbody : fraBody (A ++ y :: B ++ t) = b := by
        have h2 := (get_fra b t hb).2.2
        unfold fraBody at h2 ⊢
        rw [(get_fra b t hb).2.1] at h2
        rw [hn]
        rw [hx] at h2
        have e : ∀ z : UInt8, (A ++ z :: B ++ t).drop 8 = (B ++ t).drop (7 - A.length) := fun z => by
          have : (8 : Nat) = A.length + (1 + (7 - A.length)) := by omega
          rw [List.append_assoc]
          conv => lhs; rw [this]
          rw [← List.drop_drop, List.drop_left, ← List.drop_drop]
          rfl
        rw [e] at h2 ⊢
        exact h2
      rw [hbody]
      intro e
      have h2 : be4 (fraB b ++ t) = crcSum b := be4_of fun i hi => head_at b t hi
      have b4 := at8_lt (A ++ y :: B ++ t) 4
      have b5 := at8_lt (A ++ y :: B ++ t) 5
      have b6 := at8_lt (A ++ y :: B ++ t) 6
      have b7 := at8_lt (A ++ y :: B ++ t) 7
      have c4 := at8_lt (fraB b ++ t) 4
      have c5 := at8_lt (fraB b ++ t) 5
      have c6 := at8_lt (fraB b ++ t) 6
      have c7 := at8_lt (fraB b ++ t) 7
      rw [← h2] at e
      unfold be4 at e
      obtain ⟨t1, t2⟩ := hthere
      match hA : A.length, h4, h8 with
      | 4, _, _ => rw [hA] at t1 t2; omega
      | 5, _, _ => rw [hA] at t1 t2; omega
      | 6, _, _ => rw [hA] at t1 t2; omega
      | 7, _, _ => rw [hA] at t1 t2; omega
      | n + 8, _, h => omega
      | 0, h, _ => omega
      | 1, h, _ => omega
      | 2, h, _ => omega
      | 3, h, _ => omega
    · obtain ⟨A', hA'⟩ : ∃ A', A = fraHead b.length (crcSum b) ++ A' := by
        refine ⟨A.drop 8, ?_⟩
        have h1 : A.take 8 = fraHead b.length (crcSum b) := by
          have := congrArg (List.take 8) hx
          unfold fraB at this
          rw [List.take_append_of_le_length (Nat.le_refl 8 : 8 ≤ (fraHead b.length (crcSum b)).length), List.take_append_of_le_length (by omega)] at this
          exact this.symm
        rw [← h1, List.take_append_drop]
      have hb' : b = A' ++ x :: B := by
        have := hx
        unfold fraB at this
        rw [hA', List.append_assoc] at this
        exact List.append_cancel_left this
      have hbody : fraBody (A ++ y :: B ++ t) = A' ++ y :: B := by
        unfold fraBody
        rw [hn, hA', List.append_assoc, List.append_assoc, List.drop_append_of_le_length (Nat.le_refl 8 : 8 ≤ (fraHead b.length (crcSum b)).length)]
        show ((A' ++ (y :: B ++ t)).take b.length) = _
        rw [← List.append_assoc, List.take_append_of_le_length (by rw [hb']; simp), List.take_of_length_le (by rw [hb']; simp)]
      rw [hbody]
      have hbe : be4 (A ++ y :: B ++ t) = crcSum b := be4_of fun i hi => hh i hi (by omega)
      rw [hbe, hb']
      exact crcSum_ne A' B x y hne
theorem all_turned (l : List (List UInt8)) (t b : List UInt8) (hl : ∀ b ∈ l, b.length ≤ 65535) (hb : b.length ≤ 65535) {A B : List UInt8} {x y : UInt8} (hx : fraB b = A ++ x :: B) (hne : x ≠ y) :
    (allF (frasB l ++ (A ++ y :: B ++ t))).2 = 4 ∨ (allF (frasB l ++ (A ++ y :: B ++ t))).2 = 6 := by
  rw [all_fras l _ hl]
  rcases get_turned b t hb hx hne with h | h
  · rw [allF_no (by omega)]; exact .inl h
  · rw [allF_no (by omega)]; exact .inr h
end Go.Proofs.YtjfbcjmnjlehaaaGreatDoor
namespace Go.Proofs.YtjfbcjmnjlehaaaGreatDoor
open Go.RowKit
set_option linter.unusedVariables false
set_option linter.unusedSimpArgs false

theorem step_bits (d : Nat) (h : d < 4294967296) : bits .xor .u32 ((d : Int) / 2) ((d : Int) % 2 * 3988292384) = ((crcStep d : Nat) : Int) := by
  have e1 : (d : Int) / 2 = ((d / 2 : Nat) : Int) := by omega
  have e2 : (d : Int) % 2 * 3988292384 = ((if d % 2 = 1 then 3988292384 else 0 : Nat) : Int) := by
    split <;> omega
  rw [e1, e2]
  exact u32_xor_nat _ _ (by omega) (by split <;> omega)
theorem not_bits (d : Nat) (h : d < 4294967296) : bits .xor .u32 IntKind.u32.max (d : Int) = ((4294967295 - d : Nat) : Int) := by
  have := u32_xor_nat 4294967295 d (by omega) h
  rw [Nat.xor_comm, show (((4294967295 : Nat) : Int)) = IntKind.u32.max from rfl] at this
  rw [this]
  congr 1
  apply Nat.eq_of_testBit_eq
  intro i
  rw [Nat.testBit_xor]
  have h1 : (4294967295 : Nat) = 2 ^ 32 - 1 := by decide
  rw [h1, Nat.testBit_two_pow_sub_one, show 2 ^ 32 - 1 - d = 2 ^ 32 - (d + 1) by omega, Nat.testBit_two_pow_sub_succ (by omega)]
  by_cases hi : i < 32
  · simp [hi]
  · simp [hi]
    exact Nat.testBit_lt_two_pow (Nat.lt_of_lt_of_le h (show 4294967296 ≤ 2 ^ i from (show (4294967296 : Nat) = 2 ^ 32 by decide) ▸ Nat.pow_le_pow_right (by omega) (by omega)))
set_option maxRecDepth 100000 in
set_option maxHeartbeats 2000000 in
theorem fra_sum (s : ByteArray) (w : World) (hs : s.size ≤ 1000000000) : Calls Tryz.prog 100 #[.string s] w fun e w' => e = .returned (.int .u32 (crcSum s.data.toList)) ∧ w = w' := by
  go_enter Tryz.func100, Tryz.ntmps100
  go_wp2_with fail
  go_loop [3, 7] (fun c i => ∃ k : Nat, k ≤ s.size ∧ i = .int .i64 k ∧ c = .int .u32 (crcF 4294967295 (s.data.toList.take k) : Nat)) (fun _ i => s.size - (intOf i).toNat)
  case atStart => exact ⟨0, Nat.zero_le _, rfl, rfl⟩
  case round =>
    obtain ⟨k, hk, rfl, rfl⟩ := hrel
    obtain ⟨c, hc⟩ : ∃ c, crcF 4294967295 (s.data.toList.take k) = c := ⟨_, rfl⟩
    have hcl : c < 4294967296 := by rw [← hc]; exact crcF_lt (by omega) _
    rw [hc]
    by_cases hlt : k < s.size
    · have HC := Lib.hid hc
      clear hc
      have hb := s[k].toNat_lt
      have hx : bits .xor .u32 (c : Int) (s[k].toNat : Int) = ((c ^^^ s[k].toNat : Nat) : Int) := u32_xor_nat _ _ hcl (by omega)
      have hd0 := xor_byte_lt hcl s[k]
      obtain ⟨d0, hd⟩ : ∃ d, c ^^^ s[k].toNat = d := ⟨_, rfl⟩
      rw [hd] at hx hd0
      have HD := Lib.hid hd
      clear hd
      go_wp2_with fail
      go_loop [3, 16] (fun e j => ∃ m : Nat, m ≤ 8 ∧ j = .int .i64 m ∧ e = .int .u32 (crcN m d0 : Nat)) (fun _ j => 8 - (intOf j).toNat)
      case atStart => exact ⟨0, Nat.zero_le _, rfl, rfl⟩
      case round =>
        obtain ⟨m, hm, rfl, rfl⟩ := hrel
        have hml := crcN_lt hd0 m
        have hms := crcN_succ m d0
        obtain ⟨d, he⟩ : ∃ d, crcN m d0 = d := ⟨_, rfl⟩
        rw [he] at hml hms ⊢
        by_cases hlt8 : m < 8
        · have HE := Lib.hid hms
          clear he hms hx
          have ha : bits .and .u32 (d : Int) 1 = ((d % 2 : Nat) : Int) := by
            have := u32_and_nat d 1 hml (by omega)
            rw [Nat.and_one_is_mod] at this
            exact this
          have hst := step_bits d hml
          rw [← HE.out] at hst
          go_wp2_with fail
          refine ⟨⟨m + 1, by omega, by go_num, rfl⟩, by simp [intOf]; omega⟩
        · obtain rfl : m = 8 := by omega
          have hk1 : crcF 4294967295 (s.data.toList.take (k + 1)) = d := by
            have hlt' : k < s.data.toList.length := by simpa using hlt
            rw [List.take_succ_eq_append_getElem hlt', crcF_snoc, HC.out, ← he, ← HD.out]
            rfl
          have HK := Lib.hid hk1
          clear hk1 he hms hx
          go_wp2_with fail
          go_round
          case rel => exact ⟨k + 1, by omega, by go_num, by rw [HK.out]⟩
          case measure => simp [intOf]; omega
    · obtain rfl : k = s.size := by omega
      have hn := not_bits c hcl
      have he : crcSum s.data.toList = 4294967295 - c := by
        unfold crcSum
        rw [← hc, List.take_of_length_le (by simp)]
      have HE := Lib.hid he
      clear hc he
      go_wp2_with fail
      go_ret
      exact ⟨by rw [HE.out]; rfl, rfl⟩
end Go.Proofs.YtjfbcjmnjlehaaaGreatDoor
