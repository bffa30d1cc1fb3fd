/-
  Numbers and texts as bytes, in plain words: no program in sight.
-/
import Derived.Test.YtahahginmgidjaaProg
import Derived.Lib.Zigzag
import Derived.Laws.Bits64b
namespace Go.Proofs.Ytahahginmgidjaa
set_option linter.unusedVariables false
set_option linter.unusedSimpArgs false

/-- The bytes of a number. -/
def putV (n : Int) : List UInt8 := Lib.uvarint (Lib.zigzag n)
/-- The number of a zigzag. -/
def unzz (u : Nat) : Int := if u % 2 = 0 then ((u / 2 : Nat) : Int) else -((u / 2 : Nat) : Int) - 1
def getGo : Nat → Nat → List UInt8 → (Nat × Nat) ⊕ Int
  | _, _, [] => .inr 3
  | i, acc, b :: r => if (i = 9 ∧ 1 < b.toNat) ∨ (0 < i ∧ b.toNat = 0) then .inr 4 else if b.toNat < 128 then .inl (acc + b.toNat * 128 ^ i, i + 1) else getGo (i + 1) (acc + b.toNat % 128 * 128 ^ i) r
/-- The number that stands at a place, and the place behind it; else the error. -/
def getV (s : List UInt8) (k : Nat) : (Int × Nat) ⊕ Int := match getGo 0 0 (s.drop k) with
  | .inl (u, c) => .inl (unzz u, k + c)
  | .inr e => .inr e
/-- The text that stands at a place. -/
def textV (s : List UInt8) (k : Nat) : (List UInt8 × Nat) ⊕ Int := match getV s k with
  | .inr e => .inr e
  | .inl (n, j) => if n < 0 then .inr 4 else if n > 65535 then .inr 5 else if (s.length : Int) - j < n then .inr 3 else .inl ((s.drop j).take n.toNat, j + n.toNat)
theorem getGo_nil (i acc : Nat) : getGo i acc [] = .inr 3 := by unfold getGo; rfl
theorem getGo_cons (i acc : Nat) (b : UInt8) (r : List UInt8) : getGo i acc (b :: r) = if (i = 9 ∧ 1 < b.toNat) ∨ (0 < i ∧ b.toNat = 0) then .inr 4 else if b.toNat < 128 then .inl (acc + b.toNat * 128 ^ i, i + 1) else getGo (i + 1) (acc + b.toNat % 128 * 128 ^ i) r := by
  rw [getGo]
theorem getGo_le : ∀ (l : List UInt8) (i acc u c : Nat), getGo i acc l = .inl (u, c) → i < c ∧ c ≤ i + l.length
  | [], i, acc, u, c, h => by rw [getGo_nil] at h; cases h
  | b :: r, i, acc, u, c, h => by
    rw [getGo_cons] at h
    split at h
    · cases h
    · split at h
      · injection h with h
        injection h with h1 h2
        subst h2
        simp
      · have := getGo_le r _ _ _ _ h
        simp only [List.length_cons]
        omega
theorem getV_le {s : List UInt8} {k : Nat} {n : Int} {j : Nat} (hk : k ≤ s.length) (h : getV s k = .inl (n, j)) : k < j ∧ j ≤ s.length := by
  unfold getV at h
  split at h
  · rename_i u c hg
    injection h with h
    injection h with h1 h2
    have := getGo_le _ _ _ _ _ hg
    rw [List.length_drop] at this
    omega
  · cases h
theorem textV_le {s : List UInt8} {k : Nat} {t : List UInt8} {j : Nat} (hk : k ≤ s.length) (h : textV s k = .inl (t, j)) : k < j ∧ j ≤ s.length ∧ t.length ≤ 65535 := by
  unfold textV at h
  split at h
  · cases h
  · rename_i n j' hg
    have := getV_le hk hg
    split at h
    · cases h
    · split at h
      · cases h
      · split at h
        · cases h
        · injection h with h
          injection h with h1 h2
          subst h1
          simp only [List.length_take, List.length_drop]
          omega
theorem pow_last {i : Nat} (h : i ≤ 8) : (128 : Nat) ^ i ≤ 72057594037927936 := Nat.le_trans (Nat.pow_le_pow_right (by omega) h) (by decide)
/-- One round: seven bits more. -/
theorem or_step {i acc m : Nat} (ha : acc < 128 ^ i) (hi : i ≤ 9) (hm : m < 128) (h9 : i = 9 → m ≤ 1) : m * 128 ^ i < 18446744073709551616 ∧ bits .or .u64 (acc : Int) ((m * 128 ^ i : Nat) : Int) = ((acc + m * 128 ^ i : Nat) : Int) ∧ acc + m * 128 ^ i < 18446744073709551616 := by
  have hp : acc + m * 128 ^ i < 18446744073709551616 := by
    rcases Nat.lt_or_ge i 9 with h | h
    · have h8 := pow_last (show i ≤ 8 by omega)
      have : m * 128 ^ i ≤ 127 * 128 ^ i := Nat.mul_le_mul_right _ (by omega)
      omega
    · obtain rfl : i = 9 := by omega
      have := h9 rfl
      have e : (128 : Nat) ^ 9 = 9223372036854775808 := by decide
      have : m * 128 ^ 9 ≤ 1 * 128 ^ 9 := Nat.mul_le_mul_right _ this
      omega
  refine ⟨by omega, ?_, hp⟩
  rw [bits_or_u64_nat _ _ (by omega) (by omega)]
  have e : (128 : Nat) ^ i = 2 ^ (7 * i) := by rw [Nat.pow_mul]
  rw [e] at ha ⊢
  congr 1
  have := Nat.two_pow_add_eq_or_of_lt ha m
  rw [Nat.or_comm, Nat.mul_comm m, ← this]
  omega
theorem acc_step {i acc m : Nat} (ha : acc < 128 ^ i) (hm : m < 128) : acc + m * 128 ^ i < 128 ^ (i + 1) := by
  rw [Nat.pow_succ]
  have : m * 128 ^ i ≤ 127 * 128 ^ i := Nat.mul_le_mul_right _ (by omega)
  omega
theorem xor_zero64 (x : Nat) (hx : x < 9223372036854775808) : bits .xor .i64 (x : Int) 0 = (x : Int) := by
  show IntKind.i64.wrap ((BitVec.ofInt 64 (x : Int) ^^^ BitVec.ofInt 64 0).toNat : Int) = _
  have h2 : (BitVec.ofInt 64 (x : Int)).toNat = x := by
    rw [BitVec.ofInt_natCast, BitVec.toNat_ofNat]; exact Nat.mod_eq_of_lt (by omega)
  have h1 : (BitVec.ofInt 64 0).toNat = 0 := by decide
  rw [BitVec.toNat_xor, h1, h2, Nat.xor_zero, IntKind.wrap_i64]
  omega
theorem xor_one64 (x : Nat) (hx : x < 9223372036854775808) : bits .xor .i64 (x : Int) (-1) = -(x : Int) - 1 := by
  have h : bits .xor .i64 (x : Int) (-1) = bits .xor .i64 (-1) (x : Int) := by
    show IntKind.i64.wrap ((BitVec.ofInt 64 (x : Int) ^^^ BitVec.ofInt 64 (-1)).toNat : Int) = IntKind.i64.wrap ((BitVec.ofInt 64 (-1) ^^^ BitVec.ofInt 64 (x : Int)).toNat : Int)
    rw [BitVec.xor_comm]
  rw [h, Lib.i64_not x hx]
/-- The way back: 'int64(u>>1) ^ -int64(u&1)'. -/
theorem unzz_bits (u : Nat) (hu : u < 18446744073709551616) : bits .xor .i64 ((u / 2 : Nat) : Int) (-((u % 2 : Nat) : Int)) = unzz u := by
  unfold unzz
  rcases Nat.mod_two_eq_zero_or_one u with h | h
  · rw [if_pos h, h]
    exact xor_zero64 _ (by omega)
  · rw [if_neg (by omega), h]
    exact xor_one64 _ (by omega)
/-- The way there: 'uint64(n<<1) ^ uint64(n>>63)'. -/
theorem zz_pos (n : Int) (h0 : 0 ≤ n) (h1 : n ≤ 9223372036854775807) : bits .xor .u64 (IntKind.u64.wrap (IntKind.i64.wrap (n * 2))) 0 = ((Lib.zigzag n : Nat) : Int) := by
  have e1 : IntKind.u64.wrap (IntKind.i64.wrap (n * 2)) = (((2 * n).toNat : Nat) : Int) := by
    rw [IntKind.wrap_i64, IntKind.wrap_u64]
    omega
  have e2 : (0 : Int) = ((0 : Nat) : Int) := rfl
  rw [e1, e2, bits_xor_u64_nat _ _ (by omega) (by decide), Nat.xor_zero]
  unfold Lib.zigzag
  rw [if_pos h0]
theorem zz_neg (n : Int) (h0 : -9223372036854775808 ≤ n) (hn : n < 0) : bits .xor .u64 (IntKind.u64.wrap (IntKind.i64.wrap (n * 2))) 18446744073709551615 = ((Lib.zigzag n : Nat) : Int) := by
  have e1 : IntKind.u64.wrap (IntKind.i64.wrap (n * 2)) = (((2 * n + 18446744073709551616).toNat : Nat) : Int) := by
    rw [IntKind.wrap_i64, IntKind.wrap_u64]
    omega
  have e2 : (18446744073709551615 : Int) = ((2 ^ 64 - 1 : Nat) : Int) := by decide
  rw [e1, e2, bits_xor_u64_nat _ _ (by omega) (by decide), Nat.xor_comm, Lib.xor_ones64 _ (by omega)]
  unfold Lib.zigzag
  rw [if_neg (by omega)]
  omega
theorem zz_lt {n : Int} (h0 : -9223372036854775808 ≤ n) (h1 : n ≤ 9223372036854775807) : Lib.zigzag n < 18446744073709551616 := by
  unfold Lib.zigzag
  split <;> omega
end Go.Proofs.Ytahahginmgidjaa
