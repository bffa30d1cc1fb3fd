/-
  Items and their lines, as plain data: numbers. Plain Lean; no program; no condition.
-/
import Derived.WalkKit
import Derived.Lib.ItoaNum
import Derived.Lib.ParseIntB
import Derived.Lib.ParseIntBTie
namespace Go.Proofs.YtjloddlkleileaaGreatDoor
set_option linter.unusedVariables false
set_option linter.unusedSimpArgs false

def dByte (n : Nat) : UInt8 := UInt8.ofNat n
theorem dByte_nat {n : Nat} (h : n < 256) : (dByte n).toNat = n := by
  unfold dByte
  rw [UInt8.toNat_ofNat']
  omega
def isDg (b : UInt8) : Bool := decide (48 ≤ b.toNat) && decide (b.toNat ≤ 57)
def valL (acc : Nat) (l : List UInt8) : Nat := l.foldl (fun a b => 10 * a + (b.toNat - 48)) acc
theorem valL_append (acc : Nat) (l m : List UInt8) : valL acc (l ++ m) = valL (valL acc l) m := by simp [valL]
theorem dec_small {n : Nat} (h : n < 10) : Lib.decDigits n = [dByte (48 + n)] := by rw [Lib.decDigits, dif_pos h]; rfl
theorem dec_great {n : Nat} (h : ¬ n < 10) : Lib.decDigits n = Lib.decDigits (n / 10) ++ [dByte (48 + n % 10)] := by rw [Lib.decDigits, dif_neg h]; rfl
theorem dg_byte {n : Nat} (h : n < 10) : isDg (dByte (48 + n)) = true := by
  unfold isDg
  rw [dByte_nat (by omega)]
  simp
  omega
theorem dec_all (n : Nat) : (Lib.decDigits n).all isDg = true := by
  induction n using Nat.strongRecOn with
  | _ n ih =>
    by_cases h : n < 10
    · rw [dec_small h]; simp [dg_byte h]
    · rw [dec_great h, List.all_append, ih (n / 10) (by omega)]
      simp [dg_byte (show n % 10 < 10 by omega)]
theorem dec_val (n : Nat) : valL 0 (Lib.decDigits n) = n := by
  induction n using Nat.strongRecOn with
  | _ n ih =>
    by_cases h : n < 10
    · rw [dec_small h]
      show 10 * 0 + ((dByte (48 + n)).toNat - 48) = n
      rw [dByte_nat (by omega)]; omega
    · rw [dec_great h, valL_append, ih (n / 10) (by omega)]
      show 10 * (n / 10) + ((dByte (48 + n % 10)).toNat - 48) = n
      rw [dByte_nat (by omega)]; omega
theorem dec_len (k n : Nat) (h : n < 10 ^ (k + 1)) : (Lib.decDigits n).length ≤ k + 1 := by
  induction k generalizing n with
  | zero => rw [dec_small (by simpa using h)]; simp
  | succ k ih =>
    by_cases h10 : n < 10
    · rw [dec_small h10]; simp
    · rw [dec_great h10, List.length_append, List.length_singleton]
      have : n / 10 < 10 ^ (k + 1) := by
        rw [Nat.pow_succ] at h
        exact Nat.div_lt_of_lt_mul (by rw [Nat.mul_comm]; exact h)
      have := ih (n / 10) this
      omega
theorem dec_pos (n : Nat) : 1 ≤ (Lib.decDigits n).length := by
  by_cases h : n < 10
  · rw [dec_small h]; simp
  · rw [dec_great h]; simp
theorem parse_dg (M : Nat) (hM : 18446744073709551615 ≤ M) : ∀ (l : List UInt8) (acc : Nat), l.all isDg = true → (acc + 1) * 10 ^ l.length ≤ 1000000000000000000 → Lib.parseUintM M acc l = .ok (valL acc l)
  | [], acc, _, _ => rfl
  | b :: r, acc, h, hb => by
    simp only [List.all_cons, Bool.and_eq_true] at h
    have hd : 48 ≤ b.toNat ∧ b.toNat ≤ 57 := by simpa [isDg] using h.1
    have hp : 0 < 10 ^ r.length := Nat.pow_pos (by omega)
    have hle : (acc + 1) * 10 ≤ 1000000000000000000 := by
      refine Nat.le_trans ?_ hb
      rw [List.length_cons, Nat.pow_succ', ← Nat.mul_assoc]
      exact Nat.le_mul_of_pos_right _ hp
    unfold Lib.parseUintM
    rw [if_pos hd, if_neg (by omega), if_neg (by omega)]
    have ih := parse_dg M hM r (acc * 10 + (b.toNat - 48)) h.2 (by
      refine Nat.le_trans (Nat.mul_le_mul_right _ (show acc * 10 + (b.toNat - 48) + 1 ≤ (acc + 1) * 10 by omega)) ?_
      rw [Nat.mul_assoc, ← Nat.pow_succ']
      exact hb)
    rw [ih]
    show _ = Lib.NumEnd.ok (valL (10 * acc + (b.toNat - 48)) r)
    rw [Nat.mul_comm acc 10]
def maxN : Int := 9007199254740992
theorem dec_head (n : Nat) : ∃ c r, Lib.decDigits n = c :: r ∧ isDg c = true := by
  have h := dec_all n
  cases hl : Lib.decDigits n with
  | nil => have := dec_pos n; rw [hl] at this; simp at this
  | cons c r =>
    rw [hl] at h
    simp only [List.all_cons, Bool.and_eq_true] at h
    exact ⟨c, r, rfl, h.1⟩
theorem parse_dec (n : Nat) (h : n ≤ 9007199254740992) : Lib.parseUintB 64 (Lib.decDigits n) = .ok n := by
  have hl := dec_len 15 n (by omega)
  have hp := dec_pos n
  unfold Lib.parseUintB
  rw [if_neg (fun e => by rw [e] at hp; simp at hp), parse_dg _ (by decide) _ 0 (dec_all n) ?_, dec_val]
  rw [Nat.zero_add, Nat.one_mul]
  exact Nat.le_trans (Nat.pow_le_pow_right (by omega) hl) (by decide)
theorem parse_itoa (v : Int) (h1 : -maxN ≤ v) (h2 : v ≤ maxN) : Lib.parseIntB 64 (Lib.itoa v) = .ok v := by
  unfold maxN at h1 h2
  unfold Lib.itoa
  by_cases hv : v < 0
  · rw [if_pos hv]
    unfold Lib.parseIntB
    simp only
    have e : (if (45 : UInt8).toNat = 43 ∨ (45 : UInt8).toNat = 45 then Lib.decDigits v.natAbs else 45 :: Lib.decDigits v.natAbs) = Lib.decDigits v.natAbs := if_pos (.inr rfl)
    rw [e, parse_dec _ (by omega)]
    simp only
    rw [if_neg (by simp), if_neg (by simp; omega), if_pos (by rfl)]
    congr 1
    omega
  · rw [if_neg hv]
    obtain ⟨c, r, hc, hd⟩ := dec_head v.toNat
    have hd' : 48 ≤ c.toNat ∧ c.toNat ≤ 57 := by simpa [isDg] using hd
    have hp := parse_dec v.toNat (by omega)
    rw [hc] at hp ⊢
    unfold Lib.parseIntB
    simp only
    rw [if_neg (by omega), hp]
    simp only
    rw [if_neg (by simp; omega), if_neg (by simp; omega), if_neg (by omega)]
    congr 1
    omega
/-- The number that a field writes. -/
def numV (f : List UInt8) : Option Int := match Lib.parseIntB 64 f with
  | .ok v => if -maxN ≤ v ∧ v ≤ maxN ∧ Lib.itoa v = f then some v else none
  | _ => none
theorem numV_some {f : List UInt8} {v : Int} : numV f = some v ↔ (-maxN ≤ v ∧ v ≤ maxN ∧ f = Lib.itoa v) := by
  constructor
  · intro h
    unfold numV at h
    split at h
    · rename_i u hu
      split at h
      · rename_i hc
        injection h with h
        subst h
        exact ⟨hc.1, hc.2.1, hc.2.2.symm⟩
      · cases h
    · cases h
  · rintro ⟨h1, h2, rfl⟩
    unfold numV
    rw [parse_itoa v h1 h2]
    simp only
    rw [if_pos ⟨h1, h2, trivial⟩]
/-- The document's way to it. -/
def refTail (s : List UInt8) : List UInt8 := match s with | c :: r => if c = 45 then r else c :: r | [] => []
def refSign (s : List UInt8) : Int := if (refTail s).length < s.length then -((valL 0 (refTail s) : Nat) : Int) else ((valL 0 (refTail s) : Nat) : Int)
def refNum (s : List UInt8) : Option Int :=
  if 1 ≤ (refTail s).length ∧ (refTail s).length ≤ 16 ∧ (refTail s).all isDg = true ∧ Lib.itoa (refSign s) = s ∧ -maxN ≤ refSign s ∧ refSign s ≤ maxN then some (refSign s) else none
theorem refNum_eq (s : List UInt8) : refNum s = numV s := by
  cases hn : numV s with
  | some v =>
    obtain ⟨h1, h2, rfl⟩ := numV_some.1 hn
    unfold maxN at h1 h2
    have hv : refTail (Lib.itoa v) = Lib.decDigits v.natAbs ∧ refSign (Lib.itoa v) = v := by
      unfold Lib.itoa
      by_cases hv : v < 0
      · rw [if_pos hv]
        have e : refTail (45 :: Lib.decDigits v.natAbs) = Lib.decDigits v.natAbs := by simp [refTail]
        refine ⟨e, ?_⟩
        unfold refSign
        rw [e, dec_val, if_pos (by simp)]
        omega
      · rw [if_neg hv]
        have ea : v.toNat = v.natAbs := by omega
        rw [ea]
        obtain ⟨c, r, hc, hd⟩ := dec_head v.natAbs
        have hd' : 48 ≤ c.toNat ∧ c.toNat ≤ 57 := by simpa [isDg] using hd
        have e : refTail (Lib.decDigits v.natAbs) = Lib.decDigits v.natAbs := by
          rw [hc]
          unfold refTail
          simp only
          rw [if_neg (fun e => by subst e; have h9 : (45 : UInt8).toNat = 45 := rfl; omega)]
        refine ⟨e, ?_⟩
        unfold refSign
        rw [e, dec_val, if_neg (by omega)]
        omega
    unfold refNum
    rw [hv.1, hv.2, if_pos ⟨dec_pos _, dec_len 15 _ (by omega), dec_all _, rfl, by unfold maxN; omega, by unfold maxN; omega⟩]
  | none =>
    unfold refNum
    rw [if_neg]
    rintro ⟨_, _, _, h4, h5, h6⟩
    have := numV_some.2 ⟨h5, h6, h4.symm⟩
    rw [hn] at this
    cases this
end Go.Proofs.YtjloddlkleileaaGreatDoor
