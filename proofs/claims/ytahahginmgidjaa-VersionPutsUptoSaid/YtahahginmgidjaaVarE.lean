/-
  The document's numbers and texts as bytes.
-/
import Derived.Test.YtahahginmgidjaaVarC
import Derived.Deep.DeepCutAuto
namespace Go.Proofs.Ytahahginmgidjaa
open Go.RowKit
set_option linter.unusedVariables false
set_option linter.unusedSimpArgs false

theorem run_byteC (g : Nat) (x : UInt8) (W : World) (h : W.cell? ⟨g, 0, none⟩ = some (.int .u8 (x.toNat : Int))) : (convert 73 9 (.slice (some ⟨g, 0, none⟩) 1 1)).run Try.prog W = .ok (.string ⟨#[x]⟩) W :=
  run_bytes (W := W) (g := g) (n := 1) (l := [x]) fun i b hb => by
    cases i with
    | zero => simp at hb; subst hb; exact h
    | succ i => simp at hb
set_option maxRecDepth 100000 in
set_option maxHeartbeats 4000000 in
theorem r1_put (n : Int) (h0 : -9223372036854775808 ≤ n) (h1 : n ≤ 9223372036854775807) (w : World) : Calls Try.prog 25 #[.int .i64 n] w fun e w' => e = .returned (.string ⟨(putV n).toArray⟩) ∧ Chg (fun _ => False) w w' := by
  have hz := zz_lt h0 h1
  have hlen := putV_len h0 h1
  obtain ⟨U, hU⟩ : ∃ U, Lib.zigzag n = U := ⟨_, rfl⟩
  have hput : putV n = Lib.uvarint U := by unfold putV; rw [hU]
  rw [hU] at hz
  have hn : (0 ≤ n ∧ (U : Int) = 2 * n) ∨ (n < 0 ∧ (U : Int) = -2 * n - 1) := by
    unfold Lib.zigzag at hU
    split at hU <;> omega
  have HLEN := Lib.hid hlen
  have HPUT := Lib.hid hput
  clear hlen hput hU
  rcases hn with ⟨hn, hUn⟩ | ⟨hn, hUn⟩
  · have hd0 : decide (n < 0) = false := decide_eq_false (by omega)
    have hq : IntKind.u64.wrap (2 * IntKind.u64.wrap n) = (U : Int) := by rw [IntKind.wrap_u64, IntKind.wrap_u64]; omega
    have hq2 : 2 * n = (U : Int) := by omega
    clear hUn
    go_enter Try.func25, Try.ntmps25
    go_upto_region 4 with fail
    clear hq hq2 hd0
    go_wp2_with fail
    go_loopw [3, 4] (fun u s wr => ∃ (m : Nat) (S : ByteArray), u = .int .u64 (m : Int) ∧ s = .string S ∧ m < 18446744073709551616 ∧ putV n = S.data.toList ++ Lib.uvarint m ∧ Chg (fun _ => False) w wr) (fun u _ _ => (intOf u).toNat)
    case atStart => exact ⟨U, ⟨#[]⟩, rfl, rfl, hz, HPUT.out, Chg.refl _ _⟩
    case round =>
      obtain ⟨m, S, rfl, rfl, hm, hput, hcr⟩ := hrel
      have HPUT2 := Lib.hid hput
      have HCR := Lib.hid hcr
      obtain ⟨wq, rfl⟩ : ∃ wq : World, wq = wr := ⟨_, rfl⟩
      have hSs : S.size ≤ 10 := by
        have h1 := HLEN.out
        rw [hput, List.length_append, bs_len] at h1
        omega
      clear hput hcr
      by_cases h127 : m > 127
      · have hd : decide ((m : Int) > 127) = true := by simp <;> omega
        obtain ⟨c, hc⟩ : ∃ c, c = (m % 128 + 128).toUInt8 := ⟨_, rfl⟩
        have hcn : c.toNat = m % 128 + 128 := by rw [hc]; exact UInt8.toNat_ofNat_of_lt' (show m % 128 + 128 < 256 by omega)
        have hu := Lib.uvarint_big (show 128 ≤ m by omega)
        rw [← hc] at hu
        have hcv : (m : Int) % 128 + 128 = (c.toNat : Int) := by omega
        have hconv := run_byteC wq.heap.size c (wq.alloc (.cells #[.int .u8 (c.toNat : Int)] 5)) (ky_new _ _ _)
        have hadd := cat_ok S ⟨#[c]⟩ (by have : (⟨#[c]⟩ : ByteArray).size = 1 := rfl; omega)
        have HU := Lib.hid hu
        have HM := Lib.hid h127
        clear hu hc hcn h127
        go_wp2_with fail
        refine ⟨⟨m / 128, S ++ ⟨#[c]⟩, by simp, rfl, by omega, by rw [HPUT2.out, HU.out]; simp, HCR.out.alloc _⟩, ?_⟩
        have := HM.out
        simp [intOf]
        omega
      · have hd : decide ((m : Int) > 127) = false := by simp <;> omega
        obtain ⟨c, hc⟩ : ∃ c, c = m.toUInt8 := ⟨_, rfl⟩
        have hcn : c.toNat = m := by rw [hc]; exact UInt8.toNat_ofNat_of_lt' (show m < 256 by omega)
        have hu := Lib.uvarint_small (show m < 128 by omega)
        rw [← hc] at hu
        have hcv : (m : Int) = (c.toNat : Int) := by omega
        rw [hcv] at hd ⊢
        have hc8 : c.toNat < 256 := c.toNat_lt
        have hconv := run_byteC wq.heap.size c (wq.alloc (.cells #[.int .u8 (c.toNat : Int)] 5)) (ky_new _ _ _)
        have hadd := cat_ok S ⟨#[c]⟩ (by have : (⟨#[c]⟩ : ByteArray).size = 1 := rfl; omega)
        have HU := Lib.hid hu
        clear hu hc hcn h127 hcv hm
        go_wp2_with fail
        go_ret
        exact ⟨congrArg (fun x => Ending.returned (.string x)) (bs_eq (by rw [HPUT2.out, HU.out]; simp)), HCR.out.alloc _⟩
  · have hd0 : decide (n < 0) = true := decide_eq_true hn
    have hq2 : 2 * -(n + 1) + 1 = (U : Int) := by omega
    clear hUn
    go_enter Try.func25, Try.ntmps25
    go_upto_region 4 with fail
    clear hq2 hd0
    go_wp2_with fail
    go_loopw [3, 4] (fun u s wr => ∃ (m : Nat) (S : ByteArray), u = .int .u64 (m : Int) ∧ s = .string S ∧ m < 18446744073709551616 ∧ putV n = S.data.toList ++ Lib.uvarint m ∧ Chg (fun _ => False) w wr) (fun u _ _ => (intOf u).toNat)
    case atStart => exact ⟨U, ⟨#[]⟩, rfl, rfl, hz, HPUT.out, Chg.refl _ _⟩
    case round =>
      obtain ⟨m, S, rfl, rfl, hm, hput, hcr⟩ := hrel
      have HPUT2 := Lib.hid hput
      have HCR := Lib.hid hcr
      obtain ⟨wq, rfl⟩ : ∃ wq : World, wq = wr := ⟨_, rfl⟩
      have hSs : S.size ≤ 10 := by
        have h1 := HLEN.out
        rw [hput, List.length_append, bs_len] at h1
        omega
      clear hput hcr
      by_cases h127 : m > 127
      · have hd : decide ((m : Int) > 127) = true := by simp <;> omega
        obtain ⟨c, hc⟩ : ∃ c, c = (m % 128 + 128).toUInt8 := ⟨_, rfl⟩
        have hcn : c.toNat = m % 128 + 128 := by rw [hc]; exact UInt8.toNat_ofNat_of_lt' (show m % 128 + 128 < 256 by omega)
        have hu := Lib.uvarint_big (show 128 ≤ m by omega)
        rw [← hc] at hu
        have hcv : (m : Int) % 128 + 128 = (c.toNat : Int) := by omega
        have hconv := run_byteC wq.heap.size c (wq.alloc (.cells #[.int .u8 (c.toNat : Int)] 5)) (ky_new _ _ _)
        have hadd := cat_ok S ⟨#[c]⟩ (by have : (⟨#[c]⟩ : ByteArray).size = 1 := rfl; omega)
        have HU := Lib.hid hu
        have HM := Lib.hid h127
        clear hu hc hcn h127
        go_wp2_with fail
        refine ⟨⟨m / 128, S ++ ⟨#[c]⟩, by simp, rfl, by omega, by rw [HPUT2.out, HU.out]; simp, HCR.out.alloc _⟩, ?_⟩
        have := HM.out
        simp [intOf]
        omega
      · have hd : decide ((m : Int) > 127) = false := by simp <;> omega
        obtain ⟨c, hc⟩ : ∃ c, c = m.toUInt8 := ⟨_, rfl⟩
        have hcn : c.toNat = m := by rw [hc]; exact UInt8.toNat_ofNat_of_lt' (show m < 256 by omega)
        have hu := Lib.uvarint_small (show m < 128 by omega)
        rw [← hc] at hu
        have hcv : (m : Int) = (c.toNat : Int) := by omega
        rw [hcv] at hd ⊢
        have hc8 : c.toNat < 256 := c.toNat_lt
        have hconv := run_byteC wq.heap.size c (wq.alloc (.cells #[.int .u8 (c.toNat : Int)] 5)) (ky_new _ _ _)
        have hadd := cat_ok S ⟨#[c]⟩ (by have : (⟨#[c]⟩ : ByteArray).size = 1 := rfl; omega)
        have HU := Lib.hid hu
        clear hu hc hcn h127 hcv hm
        go_wp2_with fail
        go_ret
        exact ⟨congrArg (fun x => Ending.returned (.string x)) (bs_eq (by rw [HPUT2.out, HU.out]; simp)), HCR.out.alloc _⟩
/-- The value of the low seven bits of bytes, the least first. -/
def accV (l : List UInt8) : Nat := l.foldr (fun b a => b.toNat % 128 + 128 * a) 0
theorem accV_add (l : List UInt8) (b : UInt8) : accV (l ++ [b]) = accV l + b.toNat % 128 * 128 ^ l.length := by
  induction l with
  | nil => simp [accV]
  | cons c r ih =>
    have e : accV (c :: r ++ [b]) = c.toNat % 128 + 128 * accV (r ++ [b]) := rfl
    have e2 : accV (c :: r) = c.toNat % 128 + 128 * accV r := rfl
    rw [e, ih, e2, List.length_cons, Nat.pow_succ, Nat.mul_add, ← Nat.mul_assoc (b.toNat % 128), Nat.mul_comm (_ * _) 128, Nat.add_assoc]
theorem accV_cons (b : UInt8) (l : List UInt8) : accV (b :: l) = b.toNat % 128 + 128 * accV l := rfl
theorem accV_lt (l : List UInt8) : accV l < 128 ^ l.length := by
  induction l with
  | nil => simp [accV]
  | cons c r ih =>
    rw [accV_cons, List.length_cons, Nat.pow_succ]
    have := c.toNat_lt
    omega
/-- Behind bytes that all go on. -/
theorem getGo_on : ∀ (l r : List UInt8) (i acc : Nat), (∀ b ∈ l, 128 ≤ b.toNat) → i + l.length ≤ 9 → getGo i acc (l ++ r) = getGo (i + l.length) (acc + accV l * 128 ^ i) r
  | [], r, i, acc, _, _ => by simp [accV]
  | b :: l, r, i, acc, h, hi => by
    have hb := h b (by simp)
    rw [List.cons_append, getGo_cons, if_neg (by simp at hi; omega), if_neg (by omega), getGo_on l r (i + 1) _ (fun c hc => h c (by simp [hc])) (by simp at hi; omega), accV_cons]
    congr 1
    · simp; omega
    · rw [Nat.add_mul, Nat.pow_succ, Nat.add_assoc]
      congr 2
      rw [Nat.mul_comm (128 ^ i) 128, ← Nat.mul_assoc, Nat.mul_comm (accV l) 128]
/-- What the document finds: no last byte. -/
theorem get_none {s : List UInt8} {k m : Nat} (h : ∀ b ∈ (s.drop k).take m, 128 ≤ b.toNat) (hm : m ≤ 9) (he : k + m = s.length) : getV s k = .inr 3 := by
  unfold getV
  have e : s.drop k = (s.drop k).take m ++ [] := by rw [List.append_nil, List.take_of_length_le (by rw [List.length_drop]; omega)]
  rw [e, getGo_on _ _ _ _ h (by rw [List.length_take]; omega), getGo_nil]
theorem get_ten {s : List UInt8} {k : Nat} (h : ∀ b ∈ (s.drop k).take 10, 128 ≤ b.toNat) (he : k + 10 ≤ s.length) : getV s k = .inr 4 := by
  unfold getV
  have hl : 9 < (s.drop k).length := by rw [List.length_drop]; omega
  have e : s.drop k = (s.drop k).take 9 ++ (s.drop k)[9] :: (s.drop k).drop 10 := by
    rw [← List.drop_eq_getElem_cons hl, List.take_append_drop]
  have hb := h ((s.drop k)[9]) (by
    have : ((s.drop k).take 10)[9]? = some ((s.drop k)[9]) := by rw [List.getElem?_take_of_lt (by omega), List.getElem?_eq_getElem hl]
    exact List.mem_of_getElem? this)
  rw [e, getGo_on _ _ _ _ (fun b hb' => h b (List.mem_of_mem_take (i := 9) (by rw [List.take_take]; simpa using hb'))) (by rw [List.length_take]; omega), getGo_cons, if_pos]
  rw [List.length_take]
  left
  omega
/-- .. the last byte is number m. -/
theorem get_last {s : List UInt8} {k m : Nat} {b : UInt8} (h : ∀ b ∈ (s.drop k).take m, 128 ≤ b.toNat) (hm : m ≤ 9) (hb : s[k + m]? = some b) (hb1 : b.toNat < 128) :
    getV s k = if (m = 9 ∧ 1 < b.toNat) ∨ (0 < m ∧ b.toNat = 0) then .inr 4 else .inl (unzz (accV ((s.drop k).take (m + 1))), k + (m + 1)) := by
  unfold getV
  have hk := (List.getElem?_eq_some_iff.1 hb).1
  have hl : m < (s.drop k).length := by rw [List.length_drop]; omega
  have hx : (s.drop k)[m]? = some b := by rw [List.getElem?_drop]; exact hb
  have hx2 : (s.drop k)[m] = b := (List.getElem?_eq_some_iff.1 hx).2
  have e : s.drop k = (s.drop k).take m ++ b :: (s.drop k).drop (m + 1) := by
    rw [← hx2, ← List.drop_eq_getElem_cons hl, List.take_append_drop]
  have hlen : ((s.drop k).take m).length = m := by rw [List.length_take]; omega
  have et : (s.drop k).take (m + 1) = (s.drop k).take m ++ [b] := by rw [List.take_add_one, hx]; rfl
  rw [et, accV_add, hlen]
  generalize hP : (s.drop k).take m = Pm at h hlen e
  rw [e, getGo_on _ _ _ _ h (by omega), hlen, getGo_cons, Nat.zero_add, Nat.pow_zero, Nat.mul_one, Nat.zero_add]
  by_cases hbad : (m = 9 ∧ 1 < b.toNat) ∨ (0 < m ∧ b.toNat = 0)
  · rw [if_pos hbad, if_pos hbad]
  · rw [if_neg hbad, if_neg hbad, if_pos hb1]
    simp only
    rw [show b.toNat % 128 = b.toNat by omega]
end Go.Proofs.Ytahahginmgidjaa
