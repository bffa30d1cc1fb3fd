/-
  The document's Decimal.
-/
import Derived.Test.YtihkackkbdnagaaDoorFeeD
import Derived.Laws.BytesString
namespace Go.Proofs.YtihkackkbdnagaaDoor
open Go.RowKit Go.Shelf
set_option linter.unusedVariables false
set_option linter.unusedSimpArgs false

theorem run_one (g : Nat) (x : UInt8) (W : World) (h : Blk W g 5 #[.int .u8 (x.toNat : Int)]) : (convert 47 9 (.slice (some ⟨g, 0, none⟩) 1 1)).run Tryd.prog W = .ok (.string ⟨#[x]⟩) W := by
  rw [run_convert_bytes_string W 47 9 5 _ 1 1 Tryd.underlying47 Tryd.underlying5 Tryd.underlying9]
  have hcells : ∀ j u, [Value.int .u8 (x.toNat : Int)][j]? = some u → W.cell? ((⟨g, 0, none⟩ : Addr).add j) = some u := fun j u hu => by
    have e : (⟨g, 0, none⟩ : Addr).add j = ⟨g, j, none⟩ := by rw [Addr.add_lit]; simp
    rw [e, h.cell j]
    simpa using hu
  have hl : (loadCells ⟨g, 0, none⟩ (1 * 1)).run Tryd.prog W = .ok [Value.int .u8 (x.toNat : Int)].toArray W := run_firstCells_some W 1 1 ⟨g, 0, none⟩ 1 1 [Value.int .u8 (x.toNat : Int)] rfl hcells
  rw [Nat.mul_one] at hl
  rw [run_bytesToString W ⟨g, 0, none⟩ 1 1 [(x.toNat : Int)] hl]
  simp
  rfl
set_option maxRecDepth 100000 in
set_option maxHeartbeats 2000000 in
theorem r3_decimal_pos (K : Nat) (hK : 0 < K) (hb : K ≤ 9223372036854775807) (w : World) : Calls Tryd.prog 17 #[.int .i64 ((K : Nat) : Int)] w fun e w' => e = .returned (.string ⟨(Lib.itoa ((K : Nat) : Int)).toArray⟩) ∧ Chg (fun _ => False) w w' := by
  have hn0 : ((((K : Nat) : Int) : Int) == 0) = false := by rw [beq_eq_false_iff_ne]; omega
  have hneg : decide ((((K : Nat) : Int) : Int) < 0) = false := by simp <;> omega
  have hit : Lib.itoa ((K : Nat) : Int) = Lib.decDigits K := by
    unfold Lib.itoa
    rw [if_neg (by omega), Int.toNat_natCast]
  have HIT := Lib.hid hit
  clear hit
  go_enter Tryd.func17, Tryd.ntmps17
  go_wp2_with fail
  go_loopw [3, 4, 5] (fun s m d wr => ∃ (M : Nat) (S : ByteArray), m = .int .i64 ((M : Nat) : Int) ∧ s = .string S ∧ S.size + M ≤ K ∧ Lib.decDigits K = (if M = 0 then [] else Lib.decDigits M) ++ S.data.toList ∧ Chg (fun _ => False) w wr) (fun _ m _ _ => (intOf m).natAbs)
  case atStart => exact ⟨K, ⟨#[]⟩, rfl, rfl, by show 0 + K ≤ K; omega, by rw [if_neg (by omega)]; simp, Chg.refl _ _⟩
  case round =>
    obtain ⟨M, S, rfl, rfl, hsz, hd, hcr⟩ := hrel
    by_cases hM : M = 0
    · subst hM
      rw [if_pos rfl, List.nil_append] at hd
      have HD := Lib.hid hd
      have HCR := Lib.hid hcr
      clear hd hcr
      go_wp2_with fail
      go_ret
      refine ⟨?_, HCR.out⟩
      rw [HIT.out, HD.out]
      rfl
    · have hm0 : ((((M : Nat) : Int) : Int) != 0) = true := by simp [bne]; omega
      have hm1 : ((((M : Nat) : Int) : Int) == 0) = false := by rw [beq_eq_false_iff_ne]; omega
      obtain ⟨x, hx⟩ : ∃ x, dByte (48 + M % 10) = x := ⟨_, rfl⟩
      have hxn : x.toNat = 48 + M % 10 := by rw [← hx]; exact dByte_nat (by omega)
      have hd2 : Lib.decDigits K = (if M / 10 = 0 then [] else Lib.decDigits (M / 10)) ++ (x :: S.data.toList) := by
        rw [hd, if_neg hM]
        by_cases h10 : M < 10
        · rw [dec_small h10, if_pos (by omega), ← hx, Nat.mod_eq_of_lt h10]; rfl
        · rw [dec_great h10, if_neg (by omega), hx]; simp
      have et : (M : Int).tmod 10 = (M : Int) % 10 := Int.tmod_eq_emod_of_nonneg (by omega)
      have eq : (M : Int).tdiv 10 = ((M / 10 : Nat) : Int) := by rw [Int.tdiv_eq_ediv_of_nonneg (by omega)]; omega
      have e2 : 48 + (M : Int) % 10 = (x.toNat : Int) := by rw [hxn]; omega
      have hcv := run_one wr.heap.size x (wr.alloc (.cells #[.int .u8 (x.toNat : Int)] 5)) (Blk.new _ _ _)
      have hone : (⟨#[x]⟩ : ByteArray).size = 1 := rfl
      have HD := Lib.hid hd2
      have HCR := Lib.hid hcr
      clear hx hxn hd2 hd hcr
      go_wp2_with fail
      go_roundw
      case rel => exact ⟨M / 10, ⟨#[x]⟩ ++ S, by simp, rfl, by rw [ByteArray.size_append, hone]; omega, by rw [HD.out]; simp, by have := HCR.out; ((repeat (first | exact Chg.refl _ _ | assumption | refine Chg.drewN ?_ _ | refine Chg.drew ?_ | refine Chg.alloc ?_ _ | refine Chg.setCell ?_ (by first | (simp; done) | (simp; omega) | (intro h; simp at h; omega)) _)))⟩
      case measure => simp [intOf]; omega
set_option maxRecDepth 100000 in
set_option maxHeartbeats 2000000 in
theorem r3_decimal_neg (K : Nat) (hK : 0 < K) (hb : K ≤ 9223372036854775808) (w : World) : Calls Tryd.prog 17 #[.int .i64 (-((K : Nat) : Int))] w fun e w' => e = .returned (.string ⟨(Lib.itoa (-((K : Nat) : Int))).toArray⟩) ∧ Chg (fun _ => False) w w' := by
  have hn0 : (((-((K : Nat) : Int)) : Int) == 0) = false := by rw [beq_eq_false_iff_ne]; omega
  have hneg : decide (((-((K : Nat) : Int)) : Int) < 0) = true := by simp <;> omega
  have hit : Lib.itoa (-((K : Nat) : Int)) = 45 :: Lib.decDigits K := by
    unfold Lib.itoa
    rw [if_pos (by omega), show (-((K : Nat) : Int)).natAbs = K by omega]
  have HIT := Lib.hid hit
  clear hit
  go_enter Tryd.func17, Tryd.ntmps17
  go_wp2_with fail
  go_loopw [3, 4, 5] (fun s m d wr => ∃ (M : Nat) (S : ByteArray), m = .int .i64 (-((M : Nat) : Int)) ∧ s = .string S ∧ S.size + M ≤ K ∧ Lib.decDigits K = (if M = 0 then [] else Lib.decDigits M) ++ S.data.toList ∧ Chg (fun _ => False) w wr) (fun _ m _ _ => (intOf m).natAbs)
  case atStart => exact ⟨K, ⟨#[]⟩, rfl, rfl, by show 0 + K ≤ K; omega, by rw [if_neg (by omega)]; simp, Chg.refl _ _⟩
  case round =>
    obtain ⟨M, S, rfl, rfl, hsz, hd, hcr⟩ := hrel
    have hS : S.size ≤ 19 := by
      have h1 := dec_len 18 K (by omega)
      have h2 := congrArg List.length hd
      have h3 : S.data.toList.length = S.size := by rw [Array.length_toList]; rfl
      rw [List.length_append, h3] at h2
      omega
    by_cases hM : M = 0
    · subst hM
      rw [if_pos rfl, List.nil_append] at hd
      have HD := Lib.hid hd
      have HCR := Lib.hid hcr
      clear hd hcr
      go_wp2_with fail
      go_ret
      refine ⟨?_, HCR.out⟩
      rw [HIT.out, HD.out]
      rfl
    · have hm0 : (((-((M : Nat) : Int)) : Int) != 0) = true := by simp [bne]; omega
      have hm1 : (((-((M : Nat) : Int)) : Int) == 0) = false := by rw [beq_eq_false_iff_ne]; omega
      obtain ⟨x, hx⟩ : ∃ x, dByte (48 + M % 10) = x := ⟨_, rfl⟩
      have hxn : x.toNat = 48 + M % 10 := by rw [← hx]; exact dByte_nat (by omega)
      have hd2 : Lib.decDigits K = (if M / 10 = 0 then [] else Lib.decDigits (M / 10)) ++ (x :: S.data.toList) := by
        rw [hd, if_neg hM]
        by_cases h10 : M < 10
        · rw [dec_small h10, if_pos (by omega), ← hx, Nat.mod_eq_of_lt h10]; rfl
        · rw [dec_great h10, if_neg (by omega), hx]; simp
      have eq : (-((M : Nat) : Int)).tdiv 10 = -((M / 10 : Nat) : Int) := by rw [Int.neg_tdiv, Int.tdiv_eq_ediv_of_nonneg (by omega)]; omega
      by_cases h10 : M % 10 = 0
      · have et : (-((M : Nat) : Int)).tmod 10 = 0 := by rw [Int.neg_tmod, Int.tmod_eq_emod_of_nonneg (by omega)]; omega
        have e2 : (48 : Int) = (x.toNat : Int) := by rw [hxn]; omega
        have hcv := run_one wr.heap.size x (wr.alloc (.cells #[.int .u8 (x.toNat : Int)] 5)) (Blk.new _ _ _)
        have hone : (⟨#[x]⟩ : ByteArray).size = 1 := rfl
        have HD := Lib.hid hd2
        have HCR := Lib.hid hcr
        clear hx hd2 hd hcr
        rw [← e2] at hcv
        clear hxn e2
        go_wp2_with fail
        go_roundw
        case rel => exact ⟨M / 10, ⟨#[x]⟩ ++ S, by simp, rfl, by rw [ByteArray.size_append, hone]; omega, by rw [HD.out]; simp, by have := HCR.out; ((repeat (first | exact Chg.refl _ _ | assumption | refine Chg.drewN ?_ _ | refine Chg.drew ?_ | refine Chg.alloc ?_ _ | refine Chg.setCell ?_ (by first | (simp; done) | (simp; omega) | (intro h; simp at h; omega)) _)))⟩
        case measure => simp [intOf]; omega
      · have et : (-((M : Nat) : Int)).tmod 10 = -((M : Int) % 10) := by rw [Int.neg_tmod, Int.tmod_eq_emod_of_nonneg (by omega)]
        have hlt : decide (-((M : Int) % 10) < 0) = true := by simp <;> omega
        have e2 : 48 + (M : Int) % 10 = (x.toNat : Int) := by rw [hxn]; omega
        have hcv := run_one wr.heap.size x (wr.alloc (.cells #[.int .u8 (x.toNat : Int)] 5)) (Blk.new _ _ _)
        have hone : (⟨#[x]⟩ : ByteArray).size = 1 := rfl
        have HD := Lib.hid hd2
        have HCR := Lib.hid hcr
        clear hx hxn hd2 hd hcr
        go_wp2_with fail
        go_roundw
        case rel => exact ⟨M / 10, ⟨#[x]⟩ ++ S, by simp, rfl, by rw [ByteArray.size_append, hone]; omega, by rw [HD.out]; simp, by have := HCR.out; ((repeat (first | exact Chg.refl _ _ | assumption | refine Chg.drewN ?_ _ | refine Chg.drew ?_ | refine Chg.alloc ?_ _ | refine Chg.setCell ?_ (by first | (simp; done) | (simp; omega) | (intro h; simp at h; omega)) _)))⟩
        case measure => simp [intOf]; omega
end Go.Proofs.YtihkackkbdnagaaDoor
