/-
  The program's numbers as bytes: Put.
-/
import Derived.Test.YtahahginmgidjaaVarA
namespace Go.Proofs.Ytahahginmgidjaa
open Go.RowKit
set_option linter.unusedVariables false
set_option linter.unusedSimpArgs false

def byteV (b : UInt8) : Value := .int .u8 (b.toNat : Int)
theorem fold_pushV (l : List UInt8) : ∀ acc : ByteArray, (l.map fun b => (b.toNat : Int)).foldl (fun (r : ByteArray) (n : Int) => r.push (UInt8.ofNat n.toNat)) acc = acc ++ ⟨l.toArray⟩ := by
  induction l with
  | nil => intro acc; simp; apply ByteArray.ext; simp
  | cons b r ih =>
    intro acc
    simp only [List.map_cons, List.foldl_cons]
    rw [ih]
    apply ByteArray.ext
    simp
theorem run_bytes {W : World} {g n : Nat} {l : List UInt8} (h : ∀ i b, l[i]? = some b → W.cell? ⟨g, i, none⟩ = some (byteV b)) : (convert 73 9 (.slice (some ⟨g, 0, none⟩) l.length n)).run Try.prog W = .ok (.string ⟨l.toArray⟩) W := by
  rw [run_convert_bytes_string W 73 9 5 _ _ _ Try.underlying73 Try.underlying5 Try.underlying9]
  have hcells : ∀ j u, (l.map byteV)[j]? = some u → W.cell? ((⟨g, 0, none⟩ : Addr).add j) = some u := fun j u hu => by
    rw [List.getElem?_map] at hu
    cases hb : l[j]? with
    | none => rw [hb] at hu; cases hu
    | some b =>
      rw [hb] at hu
      have e : (⟨g, 0, none⟩ : Addr).add j = ⟨g, j, none⟩ := by rw [Addr.add_lit]; simp
      rw [e, h j b hb]
      simpa using hu
  have hl : (loadCells ⟨g, 0, none⟩ (l.length * 1)).run Try.prog W = .ok (l.map byteV).toArray W := run_firstCells_some W 1 l.length ⟨g, 0, none⟩ l.length n (l.map byteV) (by simp) hcells
  rw [Nat.mul_one] at hl
  have hl2 : (loadCells ⟨g, 0, none⟩ l.length).run Try.prog W = .ok ((l.map fun b => (b.toNat : Int)).map fun x => Value.int .u8 x).toArray W := by
    rw [hl, List.map_map]
    rfl
  rw [run_bytesToString W ⟨g, 0, none⟩ l.length n (l.map fun b => (b.toNat : Int)) hl2]
  rw [fold_pushV]
  simp
set_option maxRecDepth 100000 in
set_option maxHeartbeats 4000000 in
theorem va_put (n : Int) (h0 : -9223372036854775808 ≤ n) (h1 : n ≤ 9223372036854775807) (w : World) : Calls Try.prog 22 #[.int .i64 n] w fun e w' => e = .returned (.string ⟨(putV n).toArray⟩) ∧ Chg (fun _ => False) w w' := by
  obtain ⟨g, hg⟩ : ∃ g, w.heap.size = g := ⟨_, rfl⟩
  obtain ⟨w1, hw1⟩ : ∃ w1, w1 = w.alloc (.cells #[.int .u8 0, .int .u8 0, .int .u8 0, .int .u8 0, .int .u8 0, .int .u8 0, .int .u8 0, .int .u8 0, .int .u8 0, .int .u8 0] 96) := ⟨_, rfl⟩
  have hb1 : Blk w1 g 96 #[.int .u8 0, .int .u8 0, .int .u8 0, .int .u8 0, .int .u8 0, .int .u8 0, .int .u8 0, .int .u8 0, .int .u8 0, .int .u8 0] := by rw [hw1, ← hg]; exact Blk.new _ _ _
  have hc1 : Chg (fun _ => False) w w1 := by rw [hw1]; ((repeat (first | exact Chg.refl _ _ | assumption | refine Chg.drewN ?_ _ | refine Chg.drew ?_ | refine Chg.alloc ?_ _ | refine Chg.setCell ?_ (by first | (simp; done) | (simp; omega) | (intro h; simp at h; omega)) _)))
  have HW1 := Lib.hid hw1
  have HB1 := Lib.hid hb1
  have HC1 := Lib.hid hc1
  have HG := Lib.hid hg
  have hz := zz_lt h0 h1
  have hlen : (putV n).length ≤ 10 := Lib.uvarint_length64 hz
  have hstart : n < 0 ∨ 0 ≤ n := by omega
  obtain ⟨U, hU⟩ : ∃ U, Lib.zigzag n = U := ⟨_, rfl⟩
  have hput : putV n = Lib.uvarint U := by unfold putV; rw [hU]
  have hx : bits .xor .u64 (IntKind.u64.wrap (wrap64 (n * 2))) (IntKind.u64.wrap (n / 9223372036854775808)) = (U : Int) := by
    rw [← IntWalk.i64_left]
    rcases hstart with h | h
    · have e : IntKind.u64.wrap (n / 9223372036854775808) = 18446744073709551615 := by rw [IntKind.wrap_u64]; omega
      rw [e, zz_neg n h0 h, hU]
    · have e : IntKind.u64.wrap (n / 9223372036854775808) = 0 := by rw [IntKind.wrap_u64]; omega
      rw [e, zz_pos n h h1, hU]
  rw [hU] at hz
  have HLEN := Lib.hid hlen
  have HPUT := Lib.hid hput
  clear hw1 hb1 hc1 hlen hput hU hstart
  go_enter Try.func22, Try.ntmps22
  go_upto_region 2 with fail
  clear hx
  go_upto_region 3 with fail
  rw [← HW1.out]
  go_wp2_with fail
  go_loopw [3, 5] (fun u v wr => ∃ (i m : Nat) (cs : Array Value) (done : List UInt8), i ≤ 9 ∧ v = .int .i64 (i : Int) ∧ u = .int .u64 (m : Int) ∧ m < 18446744073709551616 ∧ Blk wr g 96 cs ∧ cs.size = 10 ∧ cs.toList.take i = done.map byteV ∧ done.length = i ∧ putV n = done ++ Lib.uvarint m ∧ Chg (fun _ => False) w wr) (fun _ v _ => 10 - (intOf v).toNat)
  case atStart => exact ⟨0, U, _, [], by omega, rfl, rfl, hz, HB1.out, rfl, rfl, rfl, HPUT.out, HC1.out⟩
  case round =>
    obtain ⟨i, m, cs, done, hi, rfl, rfl, hm, hB, hcs, htake, hdl, hput, hcr⟩ := hrel
    have hi9 : (i : Int) < 10 := by omega
    have hi0 : (0 : Int) ≤ i := by omega
    obtain ⟨c0, hc0⟩ : ∃ c0, cs[i]? = some c0 := ⟨cs[i]'(by omega), Array.getElem?_eq_getElem (by omega)⟩
    have y0 := hB.cell i
    rw [hc0] at y0
    have f0 := hB.frozen i
    have hgl := hB.lt
    have HB := Lib.hid hB
    have HCR := Lib.hid hcr
    have HTAKE := Lib.hid htake
    have HPUT2 := Lib.hid hput
    have HCS := Lib.hid hcs
    have HDL := Lib.hid hdl
    obtain ⟨wq, rfl⟩ : ∃ wq : World, wq = wr := ⟨_, rfl⟩
    clear hB hcr htake hput hcs hdl hc0
    by_cases h128 : 128 ≤ m
    · have hd : decide ((m : Int) ≥ 128) = true := by simp <;> omega
      have hb : bits .or .u8 ((m : Int) % 256) 128 = ((((m % 128 + 128).toUInt8).toNat : Nat) : Int) := by
        have e : (m % 128 + 128).toUInt8.toNat = m % 128 + 128 := UInt8.toNat_ofNat_of_lt' (show m % 128 + 128 < 256 by omega)
        rw [Lib.u8_or128_any _ (by omega) (by omega), e]
        omega
      have hu := Lib.uvarint_big h128
      have HU := Lib.hid hu
      clear hu h128
      have hi8 : i + 1 ≤ 9 := by
        have h1 := HLEN.out
        rw [HPUT2.out, HU.out, List.length_append, List.length_cons, HDL.out] at h1
        have := Lib.uvarint_pos (m / 128)
        omega
      go_wp2_with fail
      refine ⟨⟨i + 1, m / 128, cs.setIfInBounds i (byteV (m % 128 + 128).toUInt8), done ++ [(m % 128 + 128).toUInt8], hi8, by simp, by simp, by omega, ?_, by simp [HCS.out], ?_, by simp [HDL.out], by rw [HPUT2.out, HU.out, List.append_assoc]; rfl, ?_⟩, by simp [intOf]; omega⟩
      · have e : byteV (m % 128 + 128).toUInt8 = .int .u8 (((m : Int) % 128 + 128) % 256) := by
          unfold byteV
          rw [← hb, Lib.u8_or128_any _ (by omega) (by omega)]
          congr 1
          omega
        rw [e]
        exact HB.out.set_ i _
      · have hlt : i < cs.toList.length := by rw [Array.length_toList, HCS.out]; omega
        rw [Array.toList_setIfInBounds, List.map_append, ← HTAKE.out, List.take_add_one, List.take_set_of_le (by omega), List.getElem?_set_self hlt]
        rfl
      · have := HCR.out
        have hg' := HG.out
        ((repeat (first | with_reducible exact Chg.refl _ _ | with_reducible assumption | with_reducible refine Chg.drewN ?_ _ | with_reducible refine Chg.drew ?_ | with_reducible refine Chg.alloc ?_ _ | with_reducible refine Chg.setCell ?_ (by first | (simp; done) | (simp; omega) | (intro h; simp at h; omega)) _)))
    · have hd : decide ((m : Int) ≥ 128) = false := by simp <;> omega
      have hu := Lib.uvarint_small (show m < 128 by omega)
      have hs0 : ((i : Int) + 1) = ((i + 1 : Nat) : Int) := by omega
      obtain ⟨wz, hwz⟩ : ∃ wz, wz = wq.setCell ⟨g, i, none⟩ (.int .u8 (m : Int)) := ⟨_, rfl⟩
      have hw8 : IntKind.u8.wrap (m : Int) = (m : Int) := by rw [IntKind.wrap_u8]; omega
      have hbz : Blk wz g 96 (cs.setIfInBounds i (byteV m.toUInt8)) := by
        rw [hwz]
        have e : m.toUInt8.toNat = m := UInt8.toNat_ofNat_of_lt' (show m < 256 by omega)
        have := HB.out.set_ i (byteV m.toUInt8)
        unfold byteV at this ⊢
        rw [e] at this ⊢
        exact this
      have hput2 : putV n = done ++ [m.toUInt8] := by rw [HPUT2.out, hu]
      have hll : (done ++ [m.toUInt8]).length = i + 1 := by simp [HDL.out]
      have hcv := run_bytes (W := wz) (g := g) (n := 10) (l := done ++ [m.toUInt8]) fun j b hj => by
        rw [hbz.cell j]
        have hjl : j < i + 1 := by
          have := (List.getElem?_eq_some_iff.1 hj).1
          rw [hll] at this
          exact this
        have hlt : i < cs.toList.length := by rw [Array.length_toList, HCS.out]; omega
        have h1 : ((cs.setIfInBounds i (byteV m.toUInt8)).toList.take (i + 1)) = (done ++ [m.toUInt8]).map byteV := by
          rw [Array.toList_setIfInBounds, List.map_append, ← HTAKE.out, List.take_add_one, List.take_set_of_le (by omega), List.getElem?_set_self hlt]
          rfl
        have h2 : ((cs.setIfInBounds i (byteV m.toUInt8)).toList.take (i + 1))[j]? = some (byteV b) := by rw [h1, List.getElem?_map, hj]; rfl
        rw [List.getElem?_take_of_lt hjl, Array.getElem?_toList] at h2
        exact h2
      rw [hll, ← hput2] at hcv
      have hal : (Try.prog.arrayLen 96 : Int) = 10 := by decide +kernel
      have hsl : (Instr.sliceAt 96 (.pointer (some ⟨g, 0, none⟩)) none (some (.int .i64 ((i : Int) + 1))) none).run Try.prog wz = .ok (.slice (some ⟨g, 0, none⟩) (i + 1) 10) wz := by
        have hn : Try.prog.arrayLen 96 = 10 := by decide +kernel
        rw [run_sliceAt_array_h (P := Try.prog) wz 96 ⟨g, 0, none⟩ (by kernel_rfl) .i64 ((i : Int) + 1) (by omega) (by rw [hal]; omega), hn]
        have hsz : (sizeOf (Try.prog.elem 96)).run Try.prog wz = .ok 1 wz := by
          have he : Try.prog.elem 96 = 5 := by kernel_rfl
          rw [he]
          exact Try.sizeOf5 wz
        rw [hsz]
        show Result.ok (slicedAt _ 0 ((i : Int) + 1).toNat 10 1) wz = _
        have e : ((i : Int) + 1).toNat = i + 1 := by omega
        rw [e]
        simp [slicedAt, Addr.add_lit]
      have HWZ := Lib.hid hwz
      have hcz : Chg (fun _ => False) w wz := by
        have := HCR.out
        have hg' := HG.out
        rw [hwz]
        ((repeat (first | with_reducible exact Chg.refl _ _ | with_reducible assumption | with_reducible refine Chg.drewN ?_ _ | with_reducible refine Chg.drew ?_ | with_reducible refine Chg.alloc ?_ _ | with_reducible refine Chg.setCell ?_ (by first | (simp; done) | (simp; omega) | (intro h; simp at h; omega)) _)))
      have HCZ := Lib.hid hcz
      clear hu hwz hbz hput2 hcz h128 hs0
      go_upto_region 9 with fail
      rw [← HWZ.out]
      go_wp2_with fail
      trace_state
      go_ret
      exact ⟨rfl, HCZ.out⟩
end Go.Proofs.Ytahahginmgidjaa
