/-
  The program's numbers as bytes: Get.
  The program's numbers as bytes: Put.
  Small lemmas of general use: a cell behind what happens elsewhere, strings joined, one byte as a string. Plain laws over the program; no condition.
-/
import Derived.Test.YtahahginmgidjaaGreatDoorZMg15
import Derived.Test.YtahahginmgidjaaGreatDoorZMg00
import Derived.Deep.QuietTactic
import Derived.BigQuiet
import Derived.Laws.Strings
import Derived.Deep.DeepCutAuto
import Derived.Outline
import Derived.Test.YtahahginmgidjaaGreatDoorProg
namespace Go.Proofs.YtahahginmgidjaaGreatDoor
open Go.RowKit
set_option linter.unusedVariables false
set_option linter.unusedSimpArgs false

def GetAt (s : List UInt8) (k : Nat) (e : Ending) : Prop := match getV s k with
  | .inl (n, j) => e = .returned (.tuple #[.int .i64 n, .int .i64 (j : Int), .int .i64 0])
  | .inr c => e = .returned (.tuple #[.int .i64 0, .int .i64 0, .int .i64 c])
theorem run_sat (s : ByteArray) (i : Nat) (x : UInt8) (h : s.data.toList[i]? = some x) (w : World) : (Instr.index 9 (.string s) (.int .i64 (i : Int))).run Tryz.prog w = .ok (.int .u8 (x.toNat : Int)) w := by
  have hi : i < s.size := by
    obtain ⟨h1, _⟩ := List.getElem?_eq_some_iff.1 h
    rw [Array.length_toList] at h1
    exact h1
  have hx : s[i] = x := by
    obtain ⟨h1, h2⟩ := List.getElem?_eq_some_iff.1 h
    rw [← h2, Array.getElem_toList]
    rfl
  rw [run_index_string w _ _ _ _ Tryz.underlying9, dif_pos ⟨by omega, by omega⟩]
  simp [hx]
theorem get_end {s : List UInt8} {k i acc : Nat} (h : getGo 0 0 (s.drop k) = getGo i acc (s.drop (k + i))) (hs : k + i = s.length) : getV s k = .inr 3 := by
  unfold getV
  rw [h, List.drop_eq_nil_of_le (by omega), getGo_nil]
theorem get_step {s : List UInt8} {k i acc : Nat} {b : UInt8} (h : getGo 0 0 (s.drop k) = getGo i acc (s.drop (k + i))) (hb : s[k + i]? = some b) : getGo 0 0 (s.drop k) = if (i = 9 ∧ 1 < b.toNat) ∨ (0 < i ∧ b.toNat = 0) then .inr 4 else if b.toNat < 128 then .inl (acc + b.toNat * 128 ^ i, i + 1) else getGo (i + 1) (acc + b.toNat % 128 * 128 ^ i) (s.drop (k + (i + 1))) := by
  obtain ⟨h1, h2⟩ := List.getElem?_eq_some_iff.1 hb
  rw [h, List.drop_eq_getElem_cons h1, h2, getGo_cons]
  rfl
theorem get_bad {s : List UInt8} {k : Nat} (h : getGo 0 0 (s.drop k) = .inr 4) : getV s k = .inr 4 := by
  unfold getV
  rw [h]
set_option maxRecDepth 100000 in
set_option maxHeartbeats 4000000 in
theorem va_get (s : ByteArray) (k : Nat) (hk : k ≤ s.size) (hs : s.size ≤ 281474976710656) (w : World) : Calls Tryz.prog 157 #[.string s, .int .i64 (k : Int)] w fun e w' => GetAt s.data.toList k e ∧ w = w' := by
  have e4 : s.data.toList.length = s.size := by rw [Array.length_toList]; rfl
  have HE4 := Lib.hid e4
  clear e4
  go_enter Tryz.func157, Tryz.ntmps157
  go_wp2_with fail
  go_loopw [7, 18] (fun u v wr => ∃ i acc : Nat, i ≤ 9 ∧ v = .int .i64 (i : Int) ∧ u = .int .u64 (acc : Int) ∧ acc < 128 ^ i ∧ k + i ≤ s.size ∧ getGo 0 0 (s.data.toList.drop k) = getGo i acc (s.data.toList.drop (k + i)) ∧ w = wr) (fun _ v _ => 10 - (intOf v).toNat)
  case atStart => exact ⟨0, 0, by omega, rfl, rfl, by decide, by omega, rfl, rfl⟩
  case round =>
    obtain ⟨i, acc, hi, rfl, rfl, hacc, hki, hgo, rfl⟩ := hrel
    have hlt : (i : Int) < 10 := by omega
    have HGO := Lib.hid hgo
    have HACC := Lib.hid hacc
    clear hgo hacc
    by_cases hend : k + i = s.size
    · have hq : ((k : Int) + i == (s.size : Int)) = true := by rw [beq_iff_eq]; omega
      have hv : getV s.data.toList k = .inr 3 := get_end HGO.out (by rw [HE4.out]; exact hend)
      have HV := Lib.hid hv
      clear hv hend
      go_wp2_with fail
      go_ret3
      exact ⟨by unfold GetAt; rw [HV.out]; rfl, by first | rfl | trivial⟩
    · have hq : ((k : Int) + i == (s.size : Int)) = false := by rw [beq_eq_false_iff_ne]; omega
      have hkl : k + i < s.data.toList.length := by rw [HE4.out]; omega
      obtain ⟨b, hb⟩ : ∃ b, s.data.toList[k + i]? = some b := ⟨_, List.getElem?_eq_getElem hkl⟩
      have hix := run_sat s (k + i) b hb
      rw [Int.natCast_add] at hix
      have hst := get_step HGO.out hb
      have hbn : b.toNat < 256 := b.toNat_lt
      have HST := Lib.hid hst
      have HKI1 := Lib.hid (show k + i < s.size by omega)
      clear hb hst hkl hend
      by_cases hbad : (i = 9 ∧ 1 < b.toNat) ∨ (0 < i ∧ b.toNat = 0)
      · have hv : getV s.data.toList k = .inr 4 := get_bad (by rw [HST.out, if_pos hbad])
        have HV := Lib.hid hv
        clear hv
        by_cases h1 : i = 9 ∧ 1 < b.toNat
        · have q1 : ((i : Int) == 9) = true := by rw [beq_iff_eq]; omega
          have q2 : decide ((b.toNat : Int) > 1) = true := by simp <;> omega
          clear h1 hbad
          go_wp2_with fail
          go_ret3
          exact ⟨by unfold GetAt; rw [HV.out]; rfl, by first | rfl | trivial⟩
        · have h2 : 0 < i ∧ b.toNat = 0 := by
            rcases hbad with h | h
            · exact absurd h h1
            · exact h
          have q3 : decide (0 < i) = true := by simp <;> omega
          have q3' : 0 < i := h2.1
          have q4' : b.toNat = 0 := h2.2
          have q4 : ((b.toNat : Int) == 0) = true := by rw [beq_iff_eq]; omega
          by_cases h9 : i = 9
          · have q1 : ((i : Int) == 9) = true := by rw [beq_iff_eq]; omega
            have q2 : decide ((b.toNat : Int) > 1) = false := by simp <;> omega
            clear h1 h2 h9 hbad
            go_wp2_with fail
            go_ret3
            exact ⟨by unfold GetAt; rw [HV.out]; rfl, by first | rfl | trivial⟩
          · have q1 : ((i : Int) == 9) = false := by rw [beq_eq_false_iff_ne]; omega
            clear h1 h2 h9 hbad
            go_wp2_with fail
            go_ret3
            exact ⟨by unfold GetAt; rw [HV.out]; rfl, by first | rfl | trivial⟩
      · have hno1 : i = 9 → b.toNat ≤ 1 := fun h => by
          rcases Nat.lt_or_ge 1 b.toNat with h1 | h1
          · exact absurd (.inl ⟨h, h1⟩) hbad
          · exact h1
        have hno2 : 0 < i → b.toNat ≠ 0 := fun h h1 => hbad (.inr ⟨h, h1⟩)
        have hst := HST.out
        rw [if_neg hbad] at hst
        have hmask : bits .and .u8 (b.toNat : Int) 127 = ((b.toNat % 128 : Nat) : Int) := by
          have h := bits_mask .u8 8 (by decide) wraps_u8 7 (by decide) (b.toNat : Int) (by omega) (by omega)
          have e : (2 : Int) ^ 7 - 1 = 127 := by decide
          rw [e] at h
          rw [h]
          have e : (2 : Int) ^ 7 = 128 := by decide
          rw [e]
          omega
        obtain ⟨o1, o2, o3⟩ := or_step (m := b.toNat % 128) HACC.out hi (by omega) (fun h => by have := hno1 h; omega)
        have hacc2 := acc_step (m := b.toNat % 128) HACC.out (by omega)
        have e7 : ((b.toNat % 128 : Nat) : Int) * 2 ^ (7 * i) = ((b.toNat % 128 * 128 ^ i : Nat) : Int) := by
          have e : (128 : Nat) ^ i = 2 ^ (7 * i) := by rw [Nat.pow_mul]
          rw [e]
          simp
        have hw1 : IntKind.u64.wrap ((b.toNat % 128 : Nat) : Int) = ((b.toNat % 128 : Nat) : Int) := by rw [IntKind.wrap_u64]; omega
        have hw2 : IntKind.u64.wrap ((b.toNat % 128 * 128 ^ i : Nat) : Int) = ((b.toNat % 128 * 128 ^ i : Nat) : Int) := by rw [IntKind.wrap_u64]; omega
        have hor : bits .or .u64 (acc : Int) (IntKind.u64.wrap (IntKind.u64.wrap (bits .and .u8 (b.toNat : Int) 127) * 2 ^ (7 * i))) = ((acc + b.toNat % 128 * 128 ^ i : Nat) : Int) := by
          rw [hmask, hw1, e7, hw2, o2]
        obtain ⟨u, hu⟩ : ∃ u, acc + b.toNat % 128 * 128 ^ i = u := ⟨_, rfl⟩
        rw [hu] at hor hacc2 o3 hst
        have HST2 := Lib.hid hst
        have HU := Lib.hid hu
        have HACC2 := Lib.hid hacc2
        clear hst hu hacc2 e7 hw1 hw2 o1 o2 hmask hbad
        have f1 : ∀ z, decide (i = 9) = true → decide ((b.toNat : Int) > 1) = z → z = false := fun z h1 h2 => by
          subst h2
          have := hno1 (of_decide_eq_true h1)
          simp
          omega
        have hval : bits .xor .i64 ((u : Int) / 2) (wrap64 (-wrap64 (bits .and .u64 (u : Int) 1))) = unzz u := by
          rw [Lib.u64_and1 _ (by omega) (by omega)]
          have e1 : ((u : Int) / 2) = ((u / 2 : Nat) : Int) := by omega
          have e2 : wrap64 ((u : Int) % 2) = ((u % 2 : Nat) : Int) := by rw [IntWalk.wrap64_in _ (by omega)]; omega
          have e3 : wrap64 (-((u % 2 : Nat) : Int)) = -((u % 2 : Nat) : Int) := IntWalk.wrap64_in _ (by omega)
          rw [e1, e2, e3]
          exact unzz_bits u o3
        have HOR := Lib.hid hor
        have HVAL := Lib.hid hval
        clear f1 hor hval
        have q1 : ((i : Int) == 9) = decide (i = 9) := by
          by_cases h : i = 9
          · subst h; rfl
          · rw [decide_eq_false h, beq_eq_false_iff_ne]; omega
        have q4 : ((b.toNat : Int) == 0) = decide (b.toNat = 0) := by
          by_cases h : b.toNat = 0
          · rw [h]; rfl
          · rw [decide_eq_false h, beq_eq_false_iff_ne]; omega
        have q2 : decide ((b.toNat : Int) > 1) = decide (1 < b.toNat) := by
          by_cases h : 1 < b.toNat
          · rw [decide_eq_true h]; simp; omega
          · rw [decide_eq_false h]; simp; omega
        by_cases h128 : b.toNat < 128
        · have hend : getV s.data.toList k = .inl (unzz u, k + (i + 1)) := by
            unfold getV
            rw [HST2.out, if_pos h128]
            have e : b.toNat % 128 = b.toNat := by omega
            have := HU.out
            rw [e] at this
            rw [this]
          have HEND := Lib.hid hend
          have q5 : decide ((b.toNat : Int) < 128) = true := by simp <;> omega
          clear hend
          by_cases h9 : i = 9
          · rw [decide_eq_true h9] at q1
            have hb1 := hno1 h9
            have hb0 : ¬ b.toNat = 0 := hno2 (by omega)
            have hi0 : 0 < i := by omega
            have hb1' : ¬ 1 < b.toNat := by omega
            rw [decide_eq_false hb1'] at q2
            rw [decide_eq_false hb0] at q4
            clear hno1 hno2 h9 hb1 hb0 hb1' h128
            go_upto_region 12 with fail
            have hor := HOR.out
            go_upto_region 14 with fail
            have hval := HVAL.out
            clear hor
            go_wp2_with fail
            go_ret3
            exact ⟨by unfold GetAt; rw [HEND.out]; simp only; rw [show ((k + (i + 1) : Nat) : Int) = (k : Int) + i + 1 by omega]; rfl, by first | rfl | trivial⟩
          · rw [decide_eq_false h9] at q1
            by_cases hi0 : i = 0
            · have q3 : decide (0 < i) = false := by rw [hi0]; rfl
              have q3' : ¬ 0 < i := by omega
              clear hno1 hno2 h9 hi0 h128 q2 q4
              go_upto_region 12 with fail
              have hor := HOR.out
              go_upto_region 14 with fail
              have hval := HVAL.out
              clear hor
              go_wp2_with fail
              go_ret3
              exact ⟨by unfold GetAt; rw [HEND.out]; simp only; rw [show ((k + (i + 1) : Nat) : Int) = (k : Int) + i + 1 by omega]; rfl, by first | rfl | trivial⟩
            · have q3' : 0 < i := by omega
              have hb0 : ¬ b.toNat = 0 := hno2 (by omega)
              rw [decide_eq_false hb0] at q4
              clear hno1 hno2 h9 hi0 h128 q2 hb0
              go_upto_region 12 with fail
              have hor := HOR.out
              go_upto_region 14 with fail
              have hval := HVAL.out
              clear hor
              go_wp2_with fail
              go_ret3
              exact ⟨by unfold GetAt; rw [HEND.out]; simp only; rw [show ((k + (i + 1) : Nat) : Int) = (k : Int) + i + 1 by omega]; rfl, by first | rfl | trivial⟩
        · have h9 : ¬ i = 9 := fun h => by
            have := hno1 h
            omega
          have q5 : decide ((b.toNat : Int) < 128) = false := by simp <;> omega
          have hgo2 : getGo 0 0 (s.data.toList.drop k) = getGo (i + 1) u (s.data.toList.drop (k + (i + 1))) := by rw [HST2.out, if_neg h128]
          have HGO2 := Lib.hid hgo2
          clear hgo2
          rw [decide_eq_false h9] at q1
          by_cases hi0 : i = 0
          · have q3 : decide (0 < i) = false := by rw [hi0]; rfl
            have q3' : ¬ 0 < i := by omega
            have hki1 : k + (i + 1) ≤ s.size := by
              have := HKI1.out; omega
            clear hno1 hno2 hi0 h128 q2 q4
            go_upto_region 12 with fail
            have hor := HOR.out
            go_wp2_with fail
            exact ⟨⟨i + 1, u, by omega, by simp, by first | rfl | simp, HACC2.out, hki1, HGO2.out, by first | rfl | trivial⟩, by simp [intOf]; omega⟩
          · have q3' : 0 < i := by omega
            have hb0 : ¬ b.toNat = 0 := hno2 (by omega)
            have hki1 : k + (i + 1) ≤ s.size := by
              have := HKI1.out; omega
            rw [decide_eq_false hb0] at q4
            clear hno1 hno2 hi0 h128 q2 hb0
            go_upto_region 12 with fail
            have hor := HOR.out
            go_wp2_with fail
            exact ⟨⟨i + 1, u, by omega, by simp, by first | rfl | simp, HACC2.out, hki1, HGO2.out, by first | rfl | trivial⟩, by simp [intOf]; omega⟩
end Go.Proofs.YtahahginmgidjaaGreatDoor
namespace Go.Proofs.YtahahginmgidjaaGreatDoor
open Go.RowKit
set_option linter.unusedVariables false
set_option linter.unusedSimpArgs false

def byteV (b : UInt8) : Value := .int .u8 (b.toNat : Int)
theorem fold_pushV (l : List UInt8) : ∀ acc : ByteArray, (l.map fun b => (b.toNat : Int)).foldl (fun (r : ByteArray) (n : Int) => r.push (UInt8.ofNat n.toNat)) acc = acc ++ ⟨l.toArray⟩ := by
  induction l with
  | nil => intro acc; simp; apply ByteArray.ext; simp
  | cons b r ih =>
    intro acc
    simp only [List.map_cons, List.foldl_cons]
    rw [ih]
    apply ByteArray.ext
    simp
theorem run_bytes {W : World} {g n : Nat} {l : List UInt8} (h : ∀ i b, l[i]? = some b → W.cell? ⟨g, i, none⟩ = some (byteV b)) : (convert 88 9 (.slice (some ⟨g, 0, none⟩) l.length n)).run Tryz.prog W = .ok (.string ⟨l.toArray⟩) W := by
  rw [run_convert_bytes_string W 88 9 5 _ _ _ Tryz.underlying88 Tryz.underlying5 Tryz.underlying9]
  have hcells : ∀ j u, (l.map byteV)[j]? = some u → W.cell? ((⟨g, 0, none⟩ : Addr).add j) = some u := fun j u hu => by
    rw [List.getElem?_map] at hu
    cases hb : l[j]? with
    | none => rw [hb] at hu; cases hu
    | some b =>
      rw [hb] at hu
      have e : (⟨g, 0, none⟩ : Addr).add j = ⟨g, j, none⟩ := by rw [Addr.add_lit]; simp
      rw [e, h j b hb]
      simpa using hu
  have hl : (loadCells ⟨g, 0, none⟩ (l.length * 1)).run Tryz.prog W = .ok (l.map byteV).toArray W := run_firstCells_some W 1 l.length ⟨g, 0, none⟩ l.length n (l.map byteV) (by simp) hcells
  rw [Nat.mul_one] at hl
  have hl2 : (loadCells ⟨g, 0, none⟩ l.length).run Tryz.prog W = .ok ((l.map fun b => (b.toNat : Int)).map fun x => Value.int .u8 x).toArray W := by
    rw [hl, List.map_map]
    rfl
  rw [run_bytesToString W ⟨g, 0, none⟩ l.length n (l.map fun b => (b.toNat : Int)) hl2]
  rw [fold_pushV]
  simp
set_option maxRecDepth 100000 in
set_option maxHeartbeats 4000000 in
theorem va_put (n : Int) (h0 : -9223372036854775808 ≤ n) (h1 : n ≤ 9223372036854775807) (w : World) : Calls Tryz.prog 154 #[.int .i64 n] w fun e w' => e = .returned (.string ⟨(putV n).toArray⟩) ∧ Chg (fun _ => False) w w' := by
  obtain ⟨g, hg⟩ : ∃ g, w.heap.size = g := ⟨_, rfl⟩
  obtain ⟨w1, hw1⟩ : ∃ w1, w1 = w.alloc (.cells #[.int .u8 0, .int .u8 0, .int .u8 0, .int .u8 0, .int .u8 0, .int .u8 0, .int .u8 0, .int .u8 0, .int .u8 0, .int .u8 0] 270) := ⟨_, rfl⟩
  have hb1 : Blk w1 g 270 #[.int .u8 0, .int .u8 0, .int .u8 0, .int .u8 0, .int .u8 0, .int .u8 0, .int .u8 0, .int .u8 0, .int .u8 0, .int .u8 0] := by rw [hw1, ← hg]; exact Blk.new _ _ _
  have hc1 : Chg (fun _ => False) w w1 := by rw [hw1]; ((repeat (first | exact Chg.refl _ _ | assumption | refine Chg.drewN ?_ _ | refine Chg.drew ?_ | refine Chg.alloc ?_ _ | refine Chg.setCell ?_ (by first | (simp; done) | (simp; omega) | (intro h; simp at h; omega)) _)))
  have HW1 := Lib.hid hw1
  have HB1 := Lib.hid hb1
  have HC1 := Lib.hid hc1
  have HG := Lib.hid hg
  have hz := zz_lt h0 h1
  have hlen : (putV n).length ≤ 10 := Lib.uvarint_length64 hz
  have hstart : n < 0 ∨ 0 ≤ n := by omega
  obtain ⟨U, hU⟩ : ∃ U, Lib.zigzag n = U := ⟨_, rfl⟩
  have hput : putV n = Lib.uvarint U := by unfold putV; rw [hU]
  have hx : bits .xor .u64 (IntKind.u64.wrap (wrap64 (n * 2))) (IntKind.u64.wrap (n / 9223372036854775808)) = (U : Int) := by
    rw [← IntWalk.i64_left]
    rcases hstart with h | h
    · have e : IntKind.u64.wrap (n / 9223372036854775808) = 18446744073709551615 := by rw [IntKind.wrap_u64]; omega
      rw [e, zz_neg n h0 h, hU]
    · have e : IntKind.u64.wrap (n / 9223372036854775808) = 0 := by rw [IntKind.wrap_u64]; omega
      rw [e, zz_pos n h h1, hU]
  rw [hU] at hz
  have HLEN := Lib.hid hlen
  have HPUT := Lib.hid hput
  clear hw1 hb1 hc1 hlen hput hU hstart
  go_enter Tryz.func154, Tryz.ntmps154
  go_upto_region 2 with fail
  clear hx
  go_upto_region 3 with fail
  rw [← HW1.out]
  go_wp2_with fail
  go_loopw [3, 5] (fun u v wr => ∃ (i m : Nat) (cs : Array Value) (done : List UInt8), i ≤ 9 ∧ v = .int .i64 (i : Int) ∧ u = .int .u64 (m : Int) ∧ m < 18446744073709551616 ∧ Blk wr g 270 cs ∧ cs.size = 10 ∧ cs.toList.take i = done.map byteV ∧ done.length = i ∧ putV n = done ++ Lib.uvarint m ∧ Chg (fun _ => False) w wr) (fun _ v _ => 10 - (intOf v).toNat)
  case atStart => exact ⟨0, U, _, [], by omega, rfl, rfl, hz, HB1.out, rfl, rfl, rfl, HPUT.out, HC1.out⟩
  case round =>
    obtain ⟨i, m, cs, done, hi, rfl, rfl, hm, hB, hcs, htake, hdl, hput, hcr⟩ := hrel
    have hi9 : (i : Int) < 10 := by omega
    have hi0 : (0 : Int) ≤ i := by omega
    obtain ⟨c0, hc0⟩ : ∃ c0, cs[i]? = some c0 := ⟨cs[i]'(by omega), Array.getElem?_eq_getElem (by omega)⟩
    have y0 := hB.cell i
    rw [hc0] at y0
    have f0 := hB.frozen i
    have hgl := hB.lt
    have HB := Lib.hid hB
    have HCR := Lib.hid hcr
    have HTAKE := Lib.hid htake
    have HPUT2 := Lib.hid hput
    have HCS := Lib.hid hcs
    have HDL := Lib.hid hdl
    obtain ⟨wq, rfl⟩ : ∃ wq : World, wq = wr := ⟨_, rfl⟩
    clear hB hcr htake hput hcs hdl hc0
    by_cases h128 : 128 ≤ m
    · have hd : decide ((m : Int) ≥ 128) = true := by simp <;> omega
      have hb : bits .or .u8 ((m : Int) % 256) 128 = ((((m % 128 + 128).toUInt8).toNat : Nat) : Int) := by
        have e : (m % 128 + 128).toUInt8.toNat = m % 128 + 128 := UInt8.toNat_ofNat_of_lt' (show m % 128 + 128 < 256 by omega)
        rw [Lib.u8_or128_any _ (by omega) (by omega), e]
        omega
      have hu := Lib.uvarint_big h128
      have HU := Lib.hid hu
      clear hu h128
      have hi8 : i + 1 ≤ 9 := by
        have h1 := HLEN.out
        rw [HPUT2.out, HU.out, List.length_append, List.length_cons, HDL.out] at h1
        have := Lib.uvarint_pos (m / 128)
        omega
      go_wp2_with fail
      refine ⟨⟨i + 1, m / 128, cs.setIfInBounds i (byteV (m % 128 + 128).toUInt8), done ++ [(m % 128 + 128).toUInt8], hi8, by simp, by simp, by omega, ?_, by simp [HCS.out], ?_, by simp [HDL.out], by rw [HPUT2.out, HU.out, List.append_assoc]; rfl, ?_⟩, by simp [intOf]; omega⟩
      · have e : byteV (m % 128 + 128).toUInt8 = .int .u8 (((m : Int) % 128 + 128) % 256) := by
          unfold byteV
          rw [← hb, Lib.u8_or128_any _ (by omega) (by omega)]
          congr 1
          omega
        rw [e]
        exact HB.out.set_ i _
      · have hlt : i < cs.toList.length := by rw [Array.length_toList, HCS.out]; omega
        rw [Array.toList_setIfInBounds, List.map_append, ← HTAKE.out, List.take_add_one, List.take_set_of_le (by omega), List.getElem?_set_self hlt]
        rfl
      · have := HCR.out
        have hg' := HG.out
        ((repeat (first | with_reducible exact Chg.refl _ _ | with_reducible assumption | with_reducible refine Chg.drewN ?_ _ | with_reducible refine Chg.drew ?_ | with_reducible refine Chg.alloc ?_ _ | with_reducible refine Chg.setCell ?_ (by first | (simp; done) | (simp; omega) | (intro h; simp at h; omega)) _)))
    · have hd : decide ((m : Int) ≥ 128) = false := by simp <;> omega
      have hu := Lib.uvarint_small (show m < 128 by omega)
      have hs0 : ((i : Int) + 1) = ((i + 1 : Nat) : Int) := by omega
      obtain ⟨wz, hwz⟩ : ∃ wz, wz = wq.setCell ⟨g, i, none⟩ (.int .u8 (m : Int)) := ⟨_, rfl⟩
      have hw8 : IntKind.u8.wrap (m : Int) = (m : Int) := by rw [IntKind.wrap_u8]; omega
      have hbz : Blk wz g 270 (cs.setIfInBounds i (byteV m.toUInt8)) := by
        rw [hwz]
        have e : m.toUInt8.toNat = m := UInt8.toNat_ofNat_of_lt' (show m < 256 by omega)
        have := HB.out.set_ i (byteV m.toUInt8)
        unfold byteV at this ⊢
        rw [e] at this ⊢
        exact this
      have hput2 : putV n = done ++ [m.toUInt8] := by rw [HPUT2.out, hu]
      have hll : (done ++ [m.toUInt8]).length = i + 1 := by simp [HDL.out]
      have hcv := run_bytes (W := wz) (g := g) (n := 10) (l := done ++ [m.toUInt8]) fun j b hj => by
        rw [hbz.cell j]
        have hjl : j < i + 1 := by
          have := (List.getElem?_eq_some_iff.1 hj).1
          rw [hll] at this
          exact this
        have hlt : i < cs.toList.length := by rw [Array.length_toList, HCS.out]; omega
        have h1 : ((cs.setIfInBounds i (byteV m.toUInt8)).toList.take (i + 1)) = (done ++ [m.toUInt8]).map byteV := by
          rw [Array.toList_setIfInBounds, List.map_append, ← HTAKE.out, List.take_add_one, List.take_set_of_le (by omega), List.getElem?_set_self hlt]
          rfl
        have h2 : ((cs.setIfInBounds i (byteV m.toUInt8)).toList.take (i + 1))[j]? = some (byteV b) := by rw [h1, List.getElem?_map, hj]; rfl
        rw [List.getElem?_take_of_lt hjl, Array.getElem?_toList] at h2
        exact h2
      rw [hll, ← hput2] at hcv
      have hal : (Tryz.prog.arrayLen 270 : Int) = 10 := by decide +kernel
      have hsl : (Instr.sliceAt 270 (.pointer (some ⟨g, 0, none⟩)) none (some (.int .i64 ((i : Int) + 1))) none).run Tryz.prog wz = .ok (.slice (some ⟨g, 0, none⟩) (i + 1) 10) wz := by
        have hn : Tryz.prog.arrayLen 270 = 10 := by decide +kernel
        rw [run_sliceAt_array_h (P := Tryz.prog) wz 270 ⟨g, 0, none⟩ (by kernel_rfl) .i64 ((i : Int) + 1) (by omega) (by rw [hal]; omega), hn]
        have hsz : (sizeOf (Tryz.prog.elem 270)).run Tryz.prog wz = .ok 1 wz := by
          have he : Tryz.prog.elem 270 = 5 := by kernel_rfl
          rw [he]
          exact Tryz.sizeOf5 wz
        rw [hsz]
        show Result.ok (slicedAt _ 0 ((i : Int) + 1).toNat 10 1) wz = _
        have e : ((i : Int) + 1).toNat = i + 1 := by omega
        rw [e]
        simp [slicedAt, Addr.add_lit]
      have HWZ := Lib.hid hwz
      have hcz : Chg (fun _ => False) w wz := by
        have := HCR.out
        have hg' := HG.out
        rw [hwz]
        ((repeat (first | with_reducible exact Chg.refl _ _ | with_reducible assumption | with_reducible refine Chg.drewN ?_ _ | with_reducible refine Chg.drew ?_ | with_reducible refine Chg.alloc ?_ _ | with_reducible refine Chg.setCell ?_ (by first | (simp; done) | (simp; omega) | (intro h; simp at h; omega)) _)))
      have HCZ := Lib.hid hcz
      clear hu hwz hbz hput2 hcz h128 hs0
      go_upto_region 9 with fail
      rw [← HWZ.out]
      go_wp2_with fail
      trace_state
      go_ret
      exact ⟨rfl, HCZ.out⟩
end Go.Proofs.YtahahginmgidjaaGreatDoor
namespace Go.Proofs.YtahahginmgidjaaGreatDoor
open Go.RowKit
set_option linter.unusedVariables false
set_option linter.unusedSimpArgs false

theorem ky_chg {w w' : World} {p : Addr} {v : Value} (hc : Chg (fun _ => False) w w') (h : w.cell? p = some v) : w'.cell? p = some v := (hc.cell (World.block_lt_of_cell? w p h) (by simp)).trans h
theorem cat_ok (x y : ByteArray) (h : x.size + y.size ≤ 9223372036854775807) : Op.stringOp .add x y = pure (.string (x ++ y)) := by
  unfold Op.stringOp
  simp only
  rw [if_neg]
  simp [IntKind.max, IntKind.bits, IntKind.signed]
  omega
theorem bs_eq {a b : ByteArray} (h : a.data.toList = b.data.toList) : a = b := ByteArray.ext (Array.ext' h)
theorem bs_len (s : ByteArray) : s.data.toList.length = s.size := by rw [Array.length_toList]; rfl
theorem bs_ext (s : ByteArray) (a b : Nat) : (s.extract a b).data.toList = (s.data.toList.take b).drop a := by
  rw [ByteArray.data_extract, Array.toList_extract]
  simp [List.extract_eq_take_drop, List.take_drop]
  by_cases h : a ≤ b
  · rw [Nat.add_sub_cancel' h]
  · rw [List.drop_eq_nil_of_le (by simp; omega), List.drop_eq_nil_of_le (by simp; omega)]
end Go.Proofs.YtahahginmgidjaaGreatDoor
