/-
  strings.Builder: WriteString and String of a builder that a call has made itself. The shelf's contracts at this seat's numbers.
  The program's numbers as bytes: Get.
  The program's numbers as bytes: Put.
  What an edit makes of a version, by the program's way and by the document's: plain Lean over lists; no program; no condition.
  Versions in memory: tables, places, the document's tables as lists; and the small calls: good, over, ahead, has, files.
  The law's edits: an edit that came in, as the program's and as the document's.
  The program's texts as bytes; many numbers as bytes.
  Items that are put together: which are good, how many bytes they have, their numbers. The walks.
-/
import Derived.Test.YtljabmkmngbhkaaGreatDoorLay
import Derived.Test.YtljabmkmngbhkaaGreatDoorZMg00
import Derived.Test.YtljabmkmngbhkaaGreatDoorProg
import Derived.Shelf.Strings.BuilderK
import Derived.Test.YtljabmkmngbhkaaGreatDoorZMg14
import Derived.Deep.QuietTactic
import Derived.BigQuiet
import Derived.Laws.Strings
import Derived.Deep.DeepCutAuto
import Derived.Outline
import Derived.Test.YtljabmkmngbhkaaGreatDoorZOwn
import Derived.Test.YtljabmkmngbhkaaGreatDoorZMg13
import Derived.Test.YtljabmkmngbhkaaGreatDoorZMg10
import Derived.WalkLawsBesides
import Derived.Deep.RegionLaw
import Derived.Deep.RegionHeld3
import Derived.Test.YtljabmkmngbhkaaGreatDoorZSkpB
namespace Go.Proofs.YtljabmkmngbhkaaGreatDoor
open Go.RowKit Go.Shelf
set_option linter.unusedVariables false
set_option linter.unusedSimpArgs false

def bldR : Ren := ⟨fun | 166 => 74 | 240 => 158 | 276 => 259 | n => n, fun | 0 => 0 | 3 => 3 | 4 => 4 | 5 => 5 | 9 => 9 | 20 => 20 | 37 => 169 | 70 => 168 | 72 => 171 | 75 => 173 | 80 => 179 | 164 => 370 | n => n, fun n => n⟩
theorem bldL : Lays.n166 Tryz.prog bldR where
  mixed := by kernel_rfl
  f166 := Tryz.func74.trans (congrArg some (by kernel_rfl))
  f240 := Tryz.func158.trans (congrArg some (by kernel_rfl))
  f276 := Tryz.func259.trans (congrArg some (by kernel_rfl))
  t0 := Tryz.underlying0
  a0 := Tryz.isAgg0
  z0 := Tryz.sizeOf0
  v0 := Tryz.zeroValue0
  t3 := Tryz.underlying3
  a3 := Tryz.isAgg3
  z3 := Tryz.sizeOf3
  v3 := Tryz.zeroValue3
  t4 := Tryz.underlying4
  a4 := Tryz.isAgg4
  z4 := Tryz.sizeOf4
  v4 := Tryz.zeroValue4
  t9 := Tryz.underlying9
  a9 := Tryz.isAgg9
  z9 := Tryz.sizeOf9
  v9 := Tryz.zeroValue9
  t20 := Tryz.underlying20
  a20 := Tryz.isAgg20
  z20 := Tryz.sizeOf20
  v20 := Tryz.zeroValue20
  t37 := Tryz.underlying169
  a37 := Tryz.isAgg169
  z37 := Tryz.sizeOf169
  v37 := Tryz.zeroValue169
  t70 := Tryz.underlying168
  a70 := Tryz.isAgg168
  z70 := Tryz.sizeOf168
  v70 := Tryz.zeroValue168
  t72 := Tryz.underlying171
  a72 := Tryz.isAgg171
  z72 := Tryz.sizeOf171
  v72 := Tryz.zeroValue171
  t75 := Tryz.underlying173
  a75 := Tryz.isAgg173
  z75 := Tryz.sizeOf173
  v75 := Tryz.zeroValue173
  t164 := Tryz.underlying370
  a164 := Tryz.isAgg370
  z164 := Tryz.sizeOf370
  v164 := Tryz.zeroValue370
theorem bldX : Builder.Extra Tryz.prog bldR where
  sizeBuilder := by kernel_rfl
  liesBuilder := by kernel_rfl
  t5 := Tryz.underlying5
  a5 := Tryz.isAgg5
  z5 := Tryz.sizeOf5
  v5 := Tryz.zeroValue5
  infoByte := by kernel_rfl
  cellsByte := by kernel_rfl
  sizeByte := by kernel_rfl
  neB5 := by decide
theorem bldY : Builder.Extra Tryz.prog Tryz.blString_ren where
  sizeBuilder := by kernel_rfl
  liesBuilder := by kernel_rfl
  t5 := Tryz.underlying5
  a5 := Tryz.isAgg5
  z5 := Tryz.sizeOf5
  v5 := Tryz.zeroValue5
  infoByte := by kernel_rfl
  cellsByte := by kernel_rfl
  sizeByte := by kernel_rfl
  neB5 := by decide
/-- The builder of block b holds the bytes l; it and its row lie at B or behind it. -/
def BldAt (B b : Nat) (l : List UInt8) (w : World) : Prop := Lib.IsBuilderF 171 5 B b (Lib.byteCells l) w
theorem bld_new (w : World) : BldAt w.heap.size w.heap.size [] (w.alloc (.cells #[.pointer none, .slice none 0 0] 171)) := Lib.IsBuilderF.of (Lib.fresh_isBuilder _ _ w)
theorem bld_at_below {T e : TypeId} {B b : Nat} {p : Value} {bs : List Value} {W W' : World} (h : Lib.BuilderAtF T e B b p bs W) (hb : Below W.heap.size W W') : Lib.BuilderAtF T e B b p bs W' := by
  have hlt := h.lt
  obtain ⟨hB, v, hv, hown, hne⟩ := h
  exact ⟨hB, v, (hb.block b hlt).trans hv, hown.kept (row := none) ⟨hb.os, hb.tape, hb.output, hb.size, fun k hk _ => hb.block k hk⟩ (Classical.em _), hne⟩
theorem BldAt.chg {B b : Nat} {l : List UInt8} {w w' : World} (h : BldAt B b l w) (hc : Chg (fun _ => False) w w') : BldAt B b l w' :=
  h.elim (fun x => .inl (bld_at_below x hc.below)) (fun x => .inr (bld_at_below x hc.below))
theorem bl_write (B b : Nat) (l : List UInt8) (s : ByteArray) (w : World) (h : BldAt B b l w) (hl : l.length + s.size ≤ 140737488355328) (hB : B ≤ w.heap.size) :
    Calls Tryz.prog 74 #[.pointer (some ⟨b, 0, none⟩), .string s] w fun e w' => e = .returned (.tuple #[.int .i64 s.size, .nilIface]) ∧ BldAt B b (l ++ s.data.toList) w' ∧ Chg (fun k => B ≤ k) w w' := by
  have h1 := Any.Builder_WriteString_k bldL bldX B b (Lib.byteCells l) s w h (by rw [Lib.byteCells_length]; exact hl) hB
  refine Calls.mono h1 fun e w' ⟨he, hb, hbl, _⟩ => ⟨he, ?_, ⟨hbl.os, hbl.tape, hbl.output, hbl.size, fun k hk hn => hbl.block k (by omega)⟩⟩
  rw [Lib.strCells_eq, ← Lib.byteCells_append] at hb
  exact .inr hb
/-- .. and whatever is neither the builder nor a row of bytes stands as it stood. -/
theorem bl_write_k (B b : Nat) (l : List UInt8) (s : ByteArray) (w : World) (h : BldAt B b l w) (hl : l.length + s.size ≤ 140737488355328) (hB : B ≤ w.heap.size) :
    Calls Tryz.prog 74 #[.pointer (some ⟨b, 0, none⟩), .string s] w fun e w' => e = .returned (.tuple #[.int .i64 s.size, .nilIface]) ∧ BldAt B b (l ++ s.data.toList) w' ∧ Chg (fun k => B ≤ k) w w' ∧ (∀ g t cs, Blk w g t cs → g ≠ b → t ≠ 5 → Blk w' g t cs) := by
  have h1 := Any.Builder_WriteString_k bldL bldX B b (Lib.byteCells l) s w h (by rw [Lib.byteCells_length]; exact hl) hB
  refine Calls.mono h1 fun e w' ⟨he, hb, hbl, ho⟩ => ⟨he, ?_, ⟨hbl.os, hbl.tape, hbl.output, hbl.size, fun k hk hn => hbl.block k (by omega)⟩, fun g t cs hk hg ht => ?_⟩
  · rw [Lib.strCells_eq, ← Lib.byteCells_append] at hb
    exact .inr hb
  · refine ho g _ hk (fun e => hg (Option.some.inj e)) fun c fz e => ?_
    injection e with _ e _
    exact ht e
theorem ren_bls : Tryz.blString_ren.f 169 = 78 := by kernel_rfl
theorem bl_string (B b : Nat) (l : List UInt8) (w : World) (h : BldAt B b l w) (hB : B ≤ w.heap.size) :
    Calls Tryz.prog 78 #[.pointer (some ⟨b, 0, none⟩)] w fun e w' => e = .returned (.string ⟨l.toArray⟩) ∧ Chg (fun k => B ≤ k) w w' := by
  have h1 := Any.Builder_String_any_k Tryz.blString bldY B b l w h hB
  rw [ren_bls] at h1
  exact Calls.mono h1 fun e w' ⟨he, _, hbl, _⟩ => ⟨he, ⟨hbl.os, hbl.tape, hbl.output, hbl.size, fun k hk hn => hbl.block k (by omega)⟩⟩
end Go.Proofs.YtljabmkmngbhkaaGreatDoor
namespace Go.Proofs.YtljabmkmngbhkaaGreatDoor
open Go.RowKit
set_option linter.unusedVariables false
set_option linter.unusedSimpArgs false

end Go.Proofs.YtljabmkmngbhkaaGreatDoor
namespace Go.Proofs.YtljabmkmngbhkaaGreatDoor
open Go.RowKit
set_option linter.unusedVariables false
set_option linter.unusedSimpArgs false

def byteV (b : UInt8) : Value := .int .u8 (b.toNat : Int)
theorem fold_pushV (l : List UInt8) : ∀ acc : ByteArray, (l.map fun b => (b.toNat : Int)).foldl (fun (r : ByteArray) (n : Int) => r.push (UInt8.ofNat n.toNat)) acc = acc ++ ⟨l.toArray⟩ := by
  induction l with
  | nil => intro acc; simp; apply ByteArray.ext; simp
  | cons b r ih =>
    intro acc
    simp only [List.map_cons, List.foldl_cons]
    rw [ih]
    apply ByteArray.ext
    simp
theorem run_bytes {W : World} {g n : Nat} {l : List UInt8} (h : ∀ i b, l[i]? = some b → W.cell? ⟨g, i, none⟩ = some (byteV b)) : (convert 169 9 (.slice (some ⟨g, 0, none⟩) l.length n)).run Tryz.prog W = .ok (.string ⟨l.toArray⟩) W := by
  rw [run_convert_bytes_string W 169 9 5 _ _ _ Tryz.underlying169 Tryz.underlying5 Tryz.underlying9]
  have hcells : ∀ j u, (l.map byteV)[j]? = some u → W.cell? ((⟨g, 0, none⟩ : Addr).add j) = some u := fun j u hu => by
    rw [List.getElem?_map] at hu
    cases hb : l[j]? with
    | none => rw [hb] at hu; cases hu
    | some b =>
      rw [hb] at hu
      have e : (⟨g, 0, none⟩ : Addr).add j = ⟨g, j, none⟩ := by rw [Addr.add_lit]; simp
      rw [e, h j b hb]
      simpa using hu
  have hl : (loadCells ⟨g, 0, none⟩ (l.length * 1)).run Tryz.prog W = .ok (l.map byteV).toArray W := run_firstCells_some W 1 l.length ⟨g, 0, none⟩ l.length n (l.map byteV) (by simp) hcells
  rw [Nat.mul_one] at hl
  have hl2 : (loadCells ⟨g, 0, none⟩ l.length).run Tryz.prog W = .ok ((l.map fun b => (b.toNat : Int)).map fun x => Value.int .u8 x).toArray W := by
    rw [hl, List.map_map]
    rfl
  rw [run_bytesToString W ⟨g, 0, none⟩ l.length n (l.map fun b => (b.toNat : Int)) hl2]
  rw [fold_pushV]
  simp
set_option maxRecDepth 100000 in
set_option maxHeartbeats 4000000 in
theorem va_put (n : Int) (h0 : -9223372036854775808 ≤ n) (h1 : n ≤ 9223372036854775807) (w : World) : Calls Tryz.prog 75 #[.int .i64 n] w fun e w' => e = .returned (.string ⟨(putV n).toArray⟩) ∧ Chg (fun _ => False) w w' := by
  obtain ⟨g, hg⟩ : ∃ g, w.heap.size = g := ⟨_, rfl⟩
  obtain ⟨w1, hw1⟩ : ∃ w1, w1 = w.alloc (.cells #[.int .u8 0, .int .u8 0, .int .u8 0, .int .u8 0, .int .u8 0, .int .u8 0, .int .u8 0, .int .u8 0, .int .u8 0, .int .u8 0] 261) := ⟨_, rfl⟩
  have hb1 : Blk w1 g 261 #[.int .u8 0, .int .u8 0, .int .u8 0, .int .u8 0, .int .u8 0, .int .u8 0, .int .u8 0, .int .u8 0, .int .u8 0, .int .u8 0] := by rw [hw1, ← hg]; exact Blk.new _ _ _
  have hc1 : Chg (fun _ => False) w w1 := by rw [hw1]; exact cgS
  have HW1 := Lib.hid hw1
  have HB1 := Lib.hid hb1
  have HC1 := Lib.hid hc1
  have HG := Lib.hid hg
  have hz := zz_lt h0 h1
  have hlen : (putV n).length ≤ 10 := Lib.uvarint_length64 hz
  have hstart : n < 0 ∨ 0 ≤ n := by omega
  obtain ⟨U, hU⟩ : ∃ U, Lib.zigzag n = U := ⟨_, rfl⟩
  have hput : putV n = Lib.uvarint U := by unfold putV; rw [hU]
  have hx : bits .xor .u64 (IntKind.u64.wrap (wrap64 (n * 2))) (IntKind.u64.wrap (n / 9223372036854775808)) = (U : Int) := by
    rw [← IntWalk.i64_left]
    rcases hstart with h | h
    · have e : IntKind.u64.wrap (n / 9223372036854775808) = 18446744073709551615 := by rw [IntKind.wrap_u64]; omega
      rw [e, zz_neg n h0 h, hU]
    · have e : IntKind.u64.wrap (n / 9223372036854775808) = 0 := by rw [IntKind.wrap_u64]; omega
      rw [e, zz_pos n h h1, hU]
  rw [hU] at hz
  have HLEN := Lib.hid hlen
  have HPUT := Lib.hid hput
  clear hw1 hb1 hc1 hlen hput hU hstart
  go_enter Tryz.func75, Tryz.ntmps75
  go_upto_region 2 with fail
  clear hx
  go_upto_region 3 with fail
  rw [← HW1.out]
  go_wp2_with fail
  go_loopw [3, 5] (fun u v wr => ∃ (i m : Nat) (cs : Array Value) (done : List UInt8), i ≤ 9 ∧ v = .int .i64 (i : Int) ∧ u = .int .u64 (m : Int) ∧ m < 18446744073709551616 ∧ Blk wr g 261 cs ∧ cs.size = 10 ∧ cs.toList.take i = done.map byteV ∧ done.length = i ∧ putV n = done ++ Lib.uvarint m ∧ Chg (fun _ => False) w wr) (fun _ v _ => 10 - (intOf v).toNat)
  case atStart => exact ⟨0, U, _, [], by omega, rfl, rfl, hz, HB1.out, rfl, rfl, rfl, HPUT.out, HC1.out⟩
  case round =>
    obtain ⟨i, m, cs, done, hi, rfl, rfl, hm, hB, hcs, htake, hdl, hput, hcr⟩ := hrel
    have hi9 : (i : Int) < 10 := by omega
    have hi0 : (0 : Int) ≤ i := by omega
    obtain ⟨c0, hc0⟩ : ∃ c0, cs[i]? = some c0 := ⟨cs[i]'(by omega), Array.getElem?_eq_getElem (by omega)⟩
    have y0 := hB.cell i
    rw [hc0] at y0
    have f0 := hB.frozen i
    have hgl := hB.lt
    have HB := Lib.hid hB
    have HCR := Lib.hid hcr
    have HTAKE := Lib.hid htake
    have HPUT2 := Lib.hid hput
    have HCS := Lib.hid hcs
    have HDL := Lib.hid hdl
    obtain ⟨wq, rfl⟩ : ∃ wq : World, wq = wr := ⟨_, rfl⟩
    clear hB hcr htake hput hcs hdl hc0
    by_cases h128 : 128 ≤ m
    · have hd : decide ((m : Int) ≥ 128) = true := by simp <;> omega
      have hb : bits .or .u8 ((m : Int) % 256) 128 = ((((m % 128 + 128).toUInt8).toNat : Nat) : Int) := by
        have e : (m % 128 + 128).toUInt8.toNat = m % 128 + 128 := UInt8.toNat_ofNat_of_lt' (show m % 128 + 128 < 256 by omega)
        rw [Lib.u8_or128_any _ (by omega) (by omega), e]
        omega
      have hu := Lib.uvarint_big h128
      have HU := Lib.hid hu
      clear hu h128
      have hi8 : i + 1 ≤ 9 := by
        have h1 := HLEN.out
        rw [HPUT2.out, HU.out, List.length_append, List.length_cons, HDL.out] at h1
        have := Lib.uvarint_pos (m / 128)
        omega
      go_wp2_with fail
      refine ⟨⟨i + 1, m / 128, cs.setIfInBounds i (byteV (m % 128 + 128).toUInt8), done ++ [(m % 128 + 128).toUInt8], hi8, by simp, by simp, by omega, ?_, by simp [HCS.out], ?_, by simp [HDL.out], by rw [HPUT2.out, HU.out, List.append_assoc]; rfl, ?_⟩, by simp [intOf]; omega⟩
      · have e : byteV (m % 128 + 128).toUInt8 = .int .u8 (((m : Int) % 128 + 128) % 256) := by
          unfold byteV
          rw [← hb, Lib.u8_or128_any _ (by omega) (by omega)]
          congr 1
          omega
        rw [e]
        exact HB.out.set_ i _
      · have hlt : i < cs.toList.length := by rw [Array.length_toList, HCS.out]; omega
        rw [Array.toList_setIfInBounds, List.map_append, ← HTAKE.out, List.take_add_one, List.take_set_of_le (by omega), List.getElem?_set_self hlt]
        rfl
      · have := HCR.out
        have hg' := HG.out
        exact cgR
    · have hd : decide ((m : Int) ≥ 128) = false := by simp <;> omega
      have hu := Lib.uvarint_small (show m < 128 by omega)
      have hs0 : ((i : Int) + 1) = ((i + 1 : Nat) : Int) := by omega
      obtain ⟨wz, hwz⟩ : ∃ wz, wz = wq.setCell ⟨g, i, none⟩ (.int .u8 (m : Int)) := ⟨_, rfl⟩
      have hw8 : IntKind.u8.wrap (m : Int) = (m : Int) := by rw [IntKind.wrap_u8]; omega
      have hbz : Blk wz g 261 (cs.setIfInBounds i (byteV m.toUInt8)) := by
        rw [hwz]
        have e : m.toUInt8.toNat = m := UInt8.toNat_ofNat_of_lt' (show m < 256 by omega)
        have := HB.out.set_ i (byteV m.toUInt8)
        unfold byteV at this ⊢
        rw [e] at this ⊢
        exact this
      have hput2 : putV n = done ++ [m.toUInt8] := by rw [HPUT2.out, hu]
      have hll : (done ++ [m.toUInt8]).length = i + 1 := by simp [HDL.out]
      have hcv := run_bytes (W := wz) (g := g) (n := 10) (l := done ++ [m.toUInt8]) fun j b hj => by
        rw [hbz.cell j]
        have hjl : j < i + 1 := by
          have := (List.getElem?_eq_some_iff.1 hj).1
          rw [hll] at this
          exact this
        have hlt : i < cs.toList.length := by rw [Array.length_toList, HCS.out]; omega
        have h1 : ((cs.setIfInBounds i (byteV m.toUInt8)).toList.take (i + 1)) = (done ++ [m.toUInt8]).map byteV := by
          rw [Array.toList_setIfInBounds, List.map_append, ← HTAKE.out, List.take_add_one, List.take_set_of_le (by omega), List.getElem?_set_self hlt]
          rfl
        have h2 : ((cs.setIfInBounds i (byteV m.toUInt8)).toList.take (i + 1))[j]? = some (byteV b) := by rw [h1, List.getElem?_map, hj]; rfl
        rw [List.getElem?_take_of_lt hjl, Array.getElem?_toList] at h2
        exact h2
      rw [hll, ← hput2] at hcv
      have hal : (Tryz.prog.arrayLen 261 : Int) = 10 := by decide +kernel
      have hsl : (Instr.sliceAt 261 (.pointer (some ⟨g, 0, none⟩)) none (some (.int .i64 ((i : Int) + 1))) none).run Tryz.prog wz = .ok (.slice (some ⟨g, 0, none⟩) (i + 1) 10) wz := by
        have hn : Tryz.prog.arrayLen 261 = 10 := by decide +kernel
        rw [run_sliceAt_array_h (P := Tryz.prog) wz 261 ⟨g, 0, none⟩ (by kernel_rfl) .i64 ((i : Int) + 1) (by omega) (by rw [hal]; omega), hn]
        have hsz : (sizeOf (Tryz.prog.elem 261)).run Tryz.prog wz = .ok 1 wz := by
          have he : Tryz.prog.elem 261 = 5 := by kernel_rfl
          rw [he]
          exact Tryz.sizeOf5 wz
        rw [hsz]
        show Result.ok (slicedAt _ 0 ((i : Int) + 1).toNat 10 1) wz = _
        have e : ((i : Int) + 1).toNat = i + 1 := by omega
        rw [e]
        simp [slicedAt, Addr.add_lit]
      have HWZ := Lib.hid hwz
      have hcz : Chg (fun _ => False) w wz := by
        have := HCR.out
        have hg' := HG.out
        rw [hwz]
        exact cgR
      have HCZ := Lib.hid hcz
      clear hu hwz hbz hput2 hcz h128 hs0
      go_upto_region 9 with fail
      rw [← HWZ.out]
      go_wp2_with fail
      trace_state
      go_ret
      exact ⟨rfl, HCZ.out⟩
end Go.Proofs.YtljabmkmngbhkaaGreatDoor
namespace Go.Proofs.YtljabmkmngbhkaaGreatDoor
set_option linter.unusedVariables false
set_option linter.unusedSimpArgs false

/-! ### The document's list -/
def setLv (f : Nat → List MetaV) (i : Nat) (l : List MetaV) : Nat → List MetaV := fun k => if k = i then l else f k
def flatF (f : Nat → List MetaV) : List PlaceV := atLevel 0 (f 0) ++ (atLevel 1 (f 1) ++ (atLevel 2 (f 2) ++ atLevel 3 (f 3)))
theorem flat_eq (S : VerV) : flat S = flatF S.lv := rfl
theorem keptP_append (d : List Int) (a b : List PlaceV) : keptP d (a ++ b) = keptP d a ++ keptP d b := List.filter_append ..
theorem keptP_level (d : List Int) (i : Nat) (l : List MetaV) : keptP d (atLevel i l) = atLevel i (kept d l) := by
  unfold keptP atLevel kept
  rw [List.filter_map]
  rfl
theorem keptP_flat (d : List Int) (f : Nat → List MetaV) : keptP d (flatF f) = flatF fun i => kept d (f i) := by
  unfold flatF
  rw [keptP_append, keptP_append, keptP_append, keptP_level, keptP_level, keptP_level, keptP_level]
/-! ### What is added to a level -/
def added (i : Nat) (add : List PlaceV) : List MetaV := (add.filter fun p => decide (p.level = (i : Int))).map (·.m)
theorem addTo_perm (i : Nat) : ∀ (add : List PlaceV) (l : List MetaV), (addTo i add l).Perm (l ++ added i add)
  | [], l => by simp [addTo, added]
  | p :: add, l => by
    unfold addTo
    rw [List.foldl_cons]
    by_cases h : p.level = (i : Int)
    · rw [if_pos h]
      refine (addTo_perm i add _).trans ?_
      have : added i (p :: add) = p.m :: added i add := by simp [added, h]
      rw [this]
      refine ((insG_perm p.m l).append_right _).trans ?_
      exact List.perm_middle.symm
    · rw [if_neg h]
      have : added i (p :: add) = added i add := by simp [added, h]
      rw [this]
      exact addTo_perm i add l
theorem addTo_sorted (i : Nat) : ∀ (add : List PlaceV) (l : List MetaV), Sorted (before i) l → Sorted (before i) (addTo i add l)
  | [], l, h => h
  | p :: add, l, h => by
    unfold addTo
    rw [List.foldl_cons]
    refine addTo_sorted i add _ ?_
    split
    · exact insG_sorted (before_trans i) (before_ntrans i) (before_irrefl i) _ _ h
    · exact h
theorem kept_sub (d : List Int) (l : List MetaV) : (kept d l).Sublist l := List.filter_sublist
theorem Good.sorted {S : VerV} (h : Good S) {i : Nat} (hi : i < 4) : Sorted (before i) (S.lv i) := by
  by_cases h0 : i = 0
  · subst h0
    exact h.zero.imp fun {a b} hab => by simp [before]; omega
  · refine (h.rest i (by omega) hi).imp_of_mem fun {a b} ha hb hab => ?_
    unfold before
    rw [if_neg h0]
    cases hc : sl b.lo a.lo with
    | false => rfl
    | true =>
      have h1 := (h.ends i hi a ha).1
      have := sl_trans hab hc
      rw [h1] at this; cases this
theorem next_perm (S : VerV) (E : EditV) (i : Nat) : ((nextV S E).lv i).Perm (kept E.drop (S.lv i) ++ added i E.add) := addTo_perm i E.add _
theorem next_sorted {S : VerV} (h : Good S) (E : EditV) {i : Nat} (hi : i < 4) : Sorted (before i) ((nextV S E).lv i) := addTo_sorted i E.add _ ((h.sorted hi).sublist (kept_sub _ _))

/-- A sorted list in which each table ends ahead of the next one's beginning. -/
def AdjOk (l : List MetaV) : Prop := ∀ i a b, l[i]? = some a → l[i + 1]? = some b → sl a.hi b.lo = true
theorem adj_of_apart {l : List MetaV} {i : Nat} (hi : i ≠ 0) (hs : Sorted (before i) l) (he : ∀ m ∈ l, sl m.hi m.lo = false) (hp : l.Pairwise Apart) : l.Pairwise fun a b => sl a.hi b.lo = true := by
  refine List.Pairwise.imp_of_mem (R := fun a b => before i b a = false ∧ Apart a b) (fun {a b} ha hb hab => ?_) (List.pairwise_and_iff.2 ⟨hs, hp⟩)
  obtain ⟨h1, h2⟩ := hab
  rcases h2 with h2 | h2
  · exact h2
  · exfalso
    unfold before at h1
    rw [if_neg hi] at h1
    have := sl_le_lt (he b hb) h2
    rw [h1] at this; cases this
/-! ### The program's way: a level sorted, whichever way -/
theorem ends_pre {S : VerV} {E : EditV} (h : Good S) (ho : okV S E) {i : Nat} (hi : i < 4) : ∀ m ∈ kept E.drop (S.lv i) ++ added i E.add, sl m.hi m.lo = false ∧ 0 ≤ m.file ∧ m.file < E.next := fun m hm => by
  rcases List.mem_append.1 hm with hm | hm
  · obtain ⟨h1, h2, h3⟩ := h.ends i hi m ((kept_sub _ _).subset hm)
    have := ho.1.1
    exact ⟨h1, h2, by omega⟩
  · obtain ⟨p, hp, rfl⟩ := List.mem_map.1 hm
    have hp' : p ∈ E.add := (List.mem_filter.1 hp).1
    obtain ⟨_, _, g2, g3, _, g5⟩ := (ho.2.2.1.1 p hp').1
    exact ⟨g5, g2, g3⟩
/-! ### Good versions stay good -/
theorem flatF_perm {f g : Nat → List MetaV} (h : ∀ i, i < 4 → (f i).Perm (g i)) : (flatF f).Perm (flatF g) :=
  ((h 0 (by omega)).map _).append (((h 1 (by omega)).map _).append (((h 2 (by omega)).map _).append ((h 3 (by omega)).map _)))
theorem flat_parted (d : List Int) (f g : Nat → List MetaV) : (flatF fun i => f i ++ g i).Perm (flatF f ++ flatF g) := by
  unfold flatF atLevel
  simp only [List.map_append]
  generalize List.map _ (f 0) = a0; generalize List.map _ (g 0) = b0
  generalize List.map _ (f 1) = a1; generalize List.map _ (g 1) = b1
  generalize List.map _ (f 2) = a2; generalize List.map _ (g 2) = b2
  generalize List.map _ (f 3) = a3; generalize List.map _ (g 3) = b3
  have swap : ∀ (a b c d : List PlaceV), (a ++ b ++ (c ++ d)).Perm (a ++ c ++ (b ++ d)) := fun a b c d => by
    rw [List.append_assoc, List.append_assoc]
    refine List.Perm.append_left a ?_
    rw [← List.append_assoc, ← List.append_assoc]
    exact List.perm_append_comm.append_right d
  refine ((((swap a2 b2 a3 b3)).append_left (a1 ++ b1)).append_left (a0 ++ b0)).trans ?_
  refine ((swap a1 b1 (a2 ++ a3) (b2 ++ b3)).append_left (a0 ++ b0)).trans ?_
  exact swap a0 b0 (a1 ++ (a2 ++ a3)) (b1 ++ (b2 ++ b3))
theorem filter_levels : ∀ (add : List PlaceV), (∀ p ∈ add, 0 ≤ p.level ∧ p.level < 4) → (filesOf (flatF fun i => added i add)).Perm (filesOf add)
  | [], _ => by simp [filesOf, flatF, added, atLevel]
  | p :: add, h => by
    obtain ⟨l, m⟩ := p
    obtain ⟨h0, h4⟩ := h ⟨l, m⟩ (by simp)
    simp only at h0 h4
    obtain ⟨i, rfl⟩ := Int.eq_ofNat_of_zero_le h0
    have ih := filter_levels add fun p hp => h p (by simp [hp])
    have e : ∀ k, added k (⟨(i : Int), m⟩ :: add) = (if k = i then [m] else []) ++ added k add := fun k => by
      unfold added
      by_cases hk : k = i
      · subst hk; simp
      · have : ¬ ((i : Int) = (k : Int)) := by omega
        simp [hk, this]
    have hf : (flatF fun k => added k (⟨(i : Int), m⟩ :: add)) = flatF fun k => (if k = i then [m] else []) ++ added k add := by
      congr 1; funext k; exact e k
    rw [hf]
    have hp := (flat_parted [] (fun k => if k = i then [m] else []) (fun k => added k add)).map (fun p : PlaceV => p.m.file)
    refine hp.trans ?_
    rw [List.map_append]
    have h1 : (flatF fun k => if k = i then [m] else []).map (fun p : PlaceV => p.m.file) = [m.file] := by
      unfold flatF atLevel
      match i, h4 with
      | 0, _ => rfl
      | 1, _ => rfl
      | 2, _ => rfl
      | 3, _ => rfl
    rw [h1]
    show (m.file :: _).Perm (m.file :: _)
    exact ih.cons _
theorem next_files {S : VerV} {E : EditV} (hl : ∀ p ∈ E.add, 0 ≤ p.level ∧ p.level < 4) : (filesOf (flat (nextV S E))).Perm (filesOf (keptP E.drop (flat S)) ++ filesOf E.add) := by
  rw [flat_eq, flat_eq, keptP_flat]
  refine ((flatF_perm fun i hi => next_perm S E i).map _).trans ?_
  refine ((flat_parted [] _ _).map _).trans ?_
  rw [List.map_append]
  exact (filter_levels E.add hl).append_left _
theorem ok_levels {S : VerV} {E : EditV} (ho : okV S E) : ∀ p ∈ E.add, 0 ≤ p.level ∧ p.level < 4 := fun p hp => ⟨(ho.2.2.1.1 p hp).1.1, (ho.2.2.1.1 p hp).1.2.1⟩
theorem next_nodup {S : VerV} {E : EditV} (h : Good S) (ho : okV S E) : (filesOf (flat (nextV S E))).Nodup := by
  rw [(next_files (ok_levels ho)).nodup_iff, List.nodup_append]
  have hsub : (filesOf (keptP E.drop (flat S))).Sublist (filesOf (flat S)) := List.filter_sublist.map _
  refine ⟨h.files.sublist hsub, ho.2.2.1.2, fun a ha b hb e => ?_⟩
  subst e
  obtain ⟨p, hp, rfl⟩ := List.mem_map.1 hb
  exact (ho.2.2.1.1 p hp).2 (hsub.subset ha)
theorem level_nodup {S : VerV} (h : (filesOf (flat S)).Nodup) : ((S.lv 0).map (·.file)).Nodup := by
  have : ((S.lv 0).map (·.file)).Sublist (filesOf (flat S)) := by
    unfold filesOf flat
    rw [List.map_append]
    have : (List.map (fun p : PlaceV => p.m.file) (atLevel 0 (S.lv 0))) = (S.lv 0).map (·.file) := by simp [atLevel]
    rw [this]
    exact List.sublist_append_left _ _
  exact h.sublist this
theorem Good.next {S : VerV} {E : EditV} (h : Good S) (ho : okV S E) : Good (nextV S E) := by
  have hn := next_nodup h ho
  have he : ∀ i, i < 4 → ∀ m ∈ (nextV S E).lv i, sl m.hi m.lo = false ∧ 0 ≤ m.file ∧ m.file < E.next := fun i hi m hm => ends_pre h ho hi m ((next_perm S E i).mem_iff.1 hm)
  refine ⟨hn, ?_, fun i h1 h4 => ?_, he, ?_⟩
  · have h1 := List.pairwise_map.1 (level_nodup hn)
    refine (List.pairwise_and_iff.2 ⟨next_sorted h E (i := 0) (by omega), h1⟩).imp fun {a b} h => ?_
    have := h.1
    have h2 := h.2
    simp [before] at this
    omega
  · exact adj_of_apart (by omega) (next_sorted h E h4) (fun m hm => (he i h4 m hm).1) (ho.2.2.2 i h1 h4)
  · have := ho.1.2
    show E.log < E.next ∨ E.log = 0 ∧ E.next = 0
    omega
end Go.Proofs.YtljabmkmngbhkaaGreatDoor
namespace Go.Proofs.YtljabmkmngbhkaaGreatDoor
open Go.RowKit
set_option linter.unusedVariables false
set_option linter.unusedSimpArgs false

def mrow (m : MetaV) : List Value := [.int .i64 m.file, .int .i64 m.size, .string m.lo, .string m.hi]
def prow (p : PlaceV) : List Value := [.int .i64 p.level, .int .i64 p.m.file, .int .i64 p.m.size, .string p.m.lo, .string p.m.hi]
/-- The program's tables; its places; the document's tables; numbers. -/
def metaC : Codec MetaV := ⟨mrow, 4, 112, 59, .agg #[.int .i64 0, .int .i64 0, .string ⟨#[]⟩, .string ⟨#[]⟩], 48⟩
def placeC : Codec PlaceV := ⟨prow, 5, 160, 155, .agg #[.int .i64 0, .int .i64 0, .int .i64 0, .string ⟨#[]⟩, .string ⟨#[]⟩], 56⟩
def i64C : Codec Int := ⟨fun x => [.int .i64 x], 1, 2, 58, .int .i64 0, 8⟩
theorem metaOk : metaC.Ok := ⟨fun _ => rfl, by decide, fun x v hv => by simp [metaC, mrow] at hv; rcases hv with rfl | rfl | rfl | rfl <;> rfl, Tryz.underlying59, by kernel_rfl, rfl, by decide⟩
theorem placeOk : placeC.Ok := ⟨fun _ => rfl, by decide, fun x v hv => by simp [placeC, prow] at hv; rcases hv with rfl | rfl | rfl | rfl | rfl <;> rfl, Tryz.underlying155, by kernel_rfl, rfl, by decide⟩
theorem i64Ok : i64C.Ok := ⟨fun _ => rfl, by decide, fun x v hv => by simp [i64C] at hv; subst hv; rfl, Tryz.underlying58, by kernel_rfl, rfl, by decide⟩

section
variable {w : World} {v : Value}
theorem meta_form {l : List MetaV} (h : Lst metaC w v l) : ∃ a cap, v = .slice a l.length cap ∧ l.length ≤ cap ∧ l.length ≤ 9223372036854775807 ∧ ∀ A x B, l = A ++ x :: B → ∃ b, a = some ⟨b, 0, none⟩ ∧ b < w.heap.size ∧ v.ownBlock = some b ∧
    w.cell? ⟨b, A.length * 4, none⟩ = some (.int .i64 x.file) ∧ w.cell? ⟨b, A.length * 4 + 1, none⟩ = some (.int .i64 x.size) ∧ w.cell? ⟨b, A.length * 4 + 2, none⟩ = some (.string x.lo) ∧ w.cell? ⟨b, A.length * 4 + 3, none⟩ = some (.string x.hi) := by
  obtain ⟨a, cap, e, h1, h2, h3⟩ := h.form metaOk
  refine ⟨a, cap, e, h1, h2, fun A x B hl => ?_⟩
  obtain ⟨b, eb, hb, ho, hc⟩ := h3 A x B hl
  exact ⟨b, eb, hb, ho, hc 0 _ rfl, hc 1 _ rfl, hc 2 _ rfl, hc 3 _ rfl⟩
theorem place_form {l : List PlaceV} (h : Lst placeC w v l) : ∃ a cap, v = .slice a l.length cap ∧ l.length ≤ cap ∧ l.length ≤ 9223372036854775807 ∧ ∀ A x B, l = A ++ x :: B → ∃ b, a = some ⟨b, 0, none⟩ ∧ b < w.heap.size ∧ v.ownBlock = some b ∧
    w.cell? ⟨b, A.length * 5, none⟩ = some (.int .i64 x.level) ∧ w.cell? ⟨b, A.length * 5 + 1, none⟩ = some (.int .i64 x.m.file) ∧ w.cell? ⟨b, A.length * 5 + 2, none⟩ = some (.int .i64 x.m.size) ∧ w.cell? ⟨b, A.length * 5 + 3, none⟩ = some (.string x.m.lo) ∧ w.cell? ⟨b, A.length * 5 + 4, none⟩ = some (.string x.m.hi) := by
  obtain ⟨a, cap, e, h1, h2, h3⟩ := h.form placeOk
  refine ⟨a, cap, e, h1, h2, fun A x B hl => ?_⟩
  obtain ⟨b, eb, hb, ho, hc⟩ := h3 A x B hl
  exact ⟨b, eb, hb, ho, hc 0 _ rfl, hc 1 _ rfl, hc 2 _ rfl, hc 3 _ rfl, hc 4 _ rfl⟩
theorem i64_form {l : List Int} (h : Lst i64C w v l) : ∃ a cap, v = .slice a l.length cap ∧ l.length ≤ cap ∧ l.length ≤ 9223372036854775807 ∧ ∀ A x B, l = A ++ x :: B → ∃ b, a = some ⟨b, 0, none⟩ ∧ b < w.heap.size ∧ v.ownBlock = some b ∧
    w.cell? ⟨b, A.length, none⟩ = some (.int .i64 x) := by
  obtain ⟨a, cap, e, h1, h2, h3⟩ := h.form i64Ok
  refine ⟨a, cap, e, h1, h2, fun A x B hl => ?_⟩
  obtain ⟨b, eb, hb, ho, hc⟩ := h3 A x B hl
  have := hc 0 _ rfl
  exact ⟨b, eb, hb, ho, by simpa [i64C] using this⟩
end

/-! ### The small calls -/
instance (next : Int) (p : PlaceV) : Decidable (goodP next p) := by unfold goodP; exact inferInstance
end Go.Proofs.YtljabmkmngbhkaaGreatDoor
namespace Go.Proofs.YtljabmkmngbhkaaGreatDoor
open Go.RowKit
set_option linter.unusedVariables false
set_option linter.unusedSimpArgs false

/-- A slice that came in reads as these tables; as these numbers. -/
def ReadRows (w : World) (v : Value) (l : List PlaceV) : Prop :=
  ∃ a cap, v = .slice a l.length cap ∧ l.length ≤ cap ∧ l.length ≤ 9223372036854775807 ∧ ∀ A x B, l = A ++ x :: B → ∃ b off, a = some ⟨b, off, none⟩ ∧ b < w.heap.size ∧
    w.cell? ⟨b, off + A.length * 5, none⟩ = some (.int .i64 x.level) ∧ w.cell? ⟨b, off + A.length * 5 + 1, none⟩ = some (.int .i64 x.m.file) ∧ w.cell? ⟨b, off + A.length * 5 + 2, none⟩ = some (.int .i64 x.m.size) ∧ w.cell? ⟨b, off + A.length * 5 + 3, none⟩ = some (.string x.m.lo) ∧ w.cell? ⟨b, off + A.length * 5 + 4, none⟩ = some (.string x.m.hi)
def ReadInts (w : World) (v : Value) (l : List Int) : Prop :=
  ∃ a cap, v = .slice a l.length cap ∧ l.length ≤ cap ∧ l.length ≤ 9223372036854775807 ∧ (l ≠ [] → ∃ b off, a = some ⟨b, off, none⟩ ∧ b < w.heap.size ∧ ∀ i x, l[i]? = some x → w.cell? ⟨b, off + i, none⟩ = some (.int .i64 x))
theorem ReadRows.same {w w' : World} {v : Value} {l : List PlaceV} (h : ReadRows w v l) (hc : Chg (fun _ => False) w w') : ReadRows w' v l := by
  obtain ⟨a, cap, e, h1, h2, h3⟩ := h
  refine ⟨a, cap, e, h1, h2, fun A x B hl => ?_⟩
  obtain ⟨b, off, e', hb, z0, z1, z2, z3, z4⟩ := h3 A x B hl
  exact ⟨b, off, e', Nat.lt_of_lt_of_le hb hc.size, (hc.cell (p := ⟨b, _, none⟩) hb (by simp)).trans z0, (hc.cell (p := ⟨b, _, none⟩) hb (by simp)).trans z1, (hc.cell (p := ⟨b, _, none⟩) hb (by simp)).trans z2, (hc.cell (p := ⟨b, _, none⟩) hb (by simp)).trans z3, (hc.cell (p := ⟨b, _, none⟩) hb (by simp)).trans z4⟩
theorem ReadInts.same {w w' : World} {v : Value} {l : List Int} (h : ReadInts w v l) (hc : Chg (fun _ => False) w w') : ReadInts w' v l := by
  obtain ⟨a, cap, e, h1, h2, h3⟩ := h
  refine ⟨a, cap, e, h1, h2, fun hl => ?_⟩
  obtain ⟨b, off, e', hb, z⟩ := h3 hl
  exact ⟨b, off, e', Nat.lt_of_lt_of_le hb hc.size, fun i x hx => (hc.cell (p := ⟨b, _, none⟩) hb (by simp)).trans (z i x hx)⟩
theorem ReadInts.src {w : World} {v : Value} {l : List Int} (h : ReadInts w v l) : Src Tryz.prog 1 58 v l.length (l.flatMap i64C.g) w := by
  obtain ⟨a, cap, rfl, h1, h2, h3⟩ := h
  have hl : (l.flatMap i64C.g).length = l.length * 1 := flat_len i64Ok.len l
  have h1' : ∀ u ∈ l.flatMap i64C.g, u.oneCell' = true := fun u hu => by
    obtain ⟨x, _, hx⟩ := List.mem_flatMap.1 hu
    exact i64Ok.one x u hx
  cases a with
  | none =>
    have hl0 : l = [] := Classical.byContradiction fun hn => by obtain ⟨b, off, e, _⟩ := h3 hn; cases e
    subst hl0
    exact Src.ofNil w Tryz.underlying58 cap
  | some a =>
    refine Src.ofSlice w Tryz.underlying58 a l.length cap _ hl (fun j u hu => ?_) h1'
    have hj : j < l.length := by
      have := (List.getElem?_eq_some_iff.1 hu).1
      omega
    have hne : l ≠ [] := fun e => by subst e; simp at hj
    obtain ⟨b, off, e, hb, z⟩ := h3 hne
    injection e with e
    subst e
    have hl' : l = l.take j ++ l[j] :: l.drop (j + 1) := by rw [← List.drop_eq_getElem_cons, List.take_append_drop]
    have hfl := flat_at i64Ok.len (l.take j) l[j] (l.drop (j + 1)) 0 (.int .i64 l[j]) rfl
    rw [← hl', List.length_take, Nat.min_eq_left (by omega)] at hfl
    have e1 : j * i64C.k + 0 = j := by show j * 1 + 0 = j; omega
    rw [e1, hu] at hfl
    cases hfl
    have := z j l[j] (List.getElem?_eq_getElem hj)
    rw [Addr.add_lit]
    exact this
section
variable {a : Act} {Q : Exit → Act → World → Prop} {K : Act → World → Prop} {ops : Array Oper} {o : Oper} {rest : List Oper} {E : Prop}
end
end Go.Proofs.YtljabmkmngbhkaaGreatDoor
namespace Go.Proofs.YtljabmkmngbhkaaGreatDoor
open Go.RowKit
set_option linter.unusedVariables false
set_option linter.unusedSimpArgs false

/-- The bytes of a text. -/
def putT (s : ByteArray) : List UInt8 := putV (s.size : Int) ++ s.data.toList
theorem putV_len {n : Int} (h0 : -9223372036854775808 ≤ n) (h1 : n ≤ 9223372036854775807) : (putV n).length ≤ 10 := Lib.uvarint_length64 (zz_lt h0 h1)
theorem putT_len {s : ByteArray} (h : s.size ≤ 9223372036854775807) : (putT s).length ≤ 10 + s.size := by
  unfold putT
  have := putV_len (n := (s.size : Int)) (by omega) (by omega)
  rw [List.length_append, bs_len]
  omega
set_option maxRecDepth 100000 in
set_option maxHeartbeats 2000000 in
theorem va_puttext (s : ByteArray) (hs : s.size ≤ 281474976710656) (w : World) : Calls Tryz.prog 77 #[.string s] w fun e w' => e = .returned (.string ⟨(putT s).toArray⟩) ∧ Chg (fun _ => False) w w' := by
  have hp := va_put (s.size : Int) (by omega) (by omega) w
  have hl := putV_len (n := (s.size : Int)) (by omega) (by omega)
  obtain ⟨T, hT⟩ : ∃ T : ByteArray, (⟨(putV (s.size : Int)).toArray⟩ : ByteArray) = T := ⟨_, rfl⟩
  have hTs : T.size ≤ 10 := by rw [← hT]; show (putV (s.size : Int)).toArray.size ≤ 10; rw [List.size_toArray]; exact hl
  have hr : (⟨(putT s).toArray⟩ : ByteArray) = T ++ s := by
    apply bs_eq
    rw [← hT]
    simp [putT]
  rw [hT] at hp
  have hadd := cat_ok T s (by omega)
  have HP := Lib.hid hp
  have HR := Lib.hid hr
  clear hp hr hT hl
  go_enter Tryz.func77, Tryz.ntmps77
  go_wp2_with fail
  refine HP.out.mono ?_
  rintro e w1 ⟨rfl, hc1⟩
  have HC1 := Lib.hid hc1
  clear hc1
  go_wp2_with fail
  go_ret
  exact ⟨by rw [HR.out]; rfl, HC1.out⟩
/-- The bytes of many numbers. -/
def putA (l : List Int) : List UInt8 := l.flatMap putV
theorem putA_len {l : List Int} (h : ∀ n ∈ l, -9223372036854775808 ≤ n ∧ n ≤ 9223372036854775807) : (putA l).length ≤ 10 * l.length := by
  induction l with
  | nil => simp [putA]
  | cons n r ih =>
    have h1 := putV_len (h n (by simp)).1 (h n (by simp)).2
    have h2 := ih fun m hm => h m (by simp [hm])
    have e : putA (n :: r) = putV n ++ putA r := by simp [putA]
    rw [e, List.length_append, List.length_cons]
    omega
theorem putA_add (A : List Int) (n : Int) : putA (A ++ [n]) = putA A ++ putV n := by simp [putA]
set_option maxRecDepth 100000 in
set_option maxHeartbeats 2000000 in
theorem va_putall (v : Value) (l : List Int) (w : World) (hL : ReadInts w v l) (hfit : ∀ n ∈ l, -9223372036854775808 ≤ n ∧ n ≤ 9223372036854775807) (hlen : l.length ≤ 1000000000) : Calls Tryz.prog 244 #[v] w fun e w' => e = .returned (.string ⟨(putA l).toArray⟩) ∧ Chg (fun _ => False) w w' := by
  obtain ⟨a, cap, rfl, h1, h2, hread⟩ := hL
  obtain ⟨w1, hw1⟩ : ∃ w1, w1 = w.alloc (.cells #[.pointer none, .slice none 0 0] 171) := ⟨_, rfl⟩
  have hc1 : Chg (fun _ => False) w w1 := by rw [hw1]; exact cgS
  have hb1 : BldAt w.heap.size w.heap.size [] w1 := by rw [hw1]; exact bld_new w
  have HW1 := Lib.hid hw1
  have HC1 := Lib.hid hc1
  have HB1 := Lib.hid hb1
  have HREAD := Lib.hid hread
  have HFIT := Lib.hid hfit
  clear hw1 hc1 hb1 hread hfit
  go_enter Tryz.func244, Tryz.ntmps244
  go_upto_region 2 with fail
  rw [← HW1.out]
  go_wp2_with fail
  go_loopw [8] (fun i wr => ∃ A R, l = A ++ R ∧ i = .int .i64 (A.length : Int) ∧ BldAt w.heap.size w.heap.size (putA A) wr ∧ Chg (fun _ => False) w wr) (fun i _ => l.length - (intOf i).toNat)
  case atStart => exact ⟨[], l, rfl, rfl, HB1.out, HC1.out⟩
  case round =>
    obtain ⟨A, R, hl, rfl, hB, hcr⟩ := hrel
    have hAl : A.length ≤ l.length := by rw [hl]; simp
    have HB := Lib.hid hB
    have HCR := Lib.hid hcr
    have hsz := hcr.size
    obtain ⟨wq, rfl⟩ : ∃ wq : World, wq = wr := ⟨_, rfl⟩
    clear hB hcr
    cases R with
    | nil =>
      have hge : ¬ ((A.length : Int) < (l.length : Int)) := by rw [hl]; simp
      have hE : l = A := by rw [hl]; simp
      have HE := Lib.hid hE
      clear hl hE
      go_wp2_with fail
      with_reducible refine (bl_string w.heap.size w.heap.size (putA A) wq HB.out hsz).mono ?_
      rintro e w2 ⟨rfl, hc2⟩
      have HC2 := Lib.hid (HCR.out.trans hc2 fun k hk h => by omega)
      clear hc2
      go_wp2_with fail
      go_ret
      exact ⟨by rw [HE.out]; rfl, HC2.out⟩
    | cons x R =>
      have hlt : (A.length : Int) < (l.length : Int) := by rw [hl]; simp; omega
      obtain ⟨b, off, rfl, hb, hx⟩ := HREAD.out (by rw [hl]; simp)
      have y0 := ky_chg HCR.out (hx A.length x (by rw [hl]; simp))
      obtain ⟨x0, x1⟩ := HFIT.out x (by rw [hl]; simp)
      have hfA := putA_len (l := A) fun y hy => HFIT.out y (by rw [hl]; simp [hy])
      have hl2 : l = (A ++ [x]) ++ R := by rw [hl]; simp
      have HL2 := Lib.hid hl2
      have hge : (0 : Int) ≤ (A.length : Int) := by omega
      have hp := va_put x x0 x1 wq
      have hpl := putV_len x0 x1
      obtain ⟨T, hT⟩ : ∃ T : ByteArray, (⟨(putV x).toArray⟩ : ByteArray) = T := ⟨_, rfl⟩
      have hTs : T.size ≤ 10 := by rw [← hT]; show (putV x).toArray.size ≤ 10; rw [List.size_toArray]; exact hpl
      have hTl : T.data.toList = putV x := by rw [← hT]
      rw [hT] at hp
      have HP := Lib.hid hp
      have HTL := Lib.hid hTl
      clear hl hl2 hb hx hp hT hTl hpl
      go_wp2_with fail
      refine HP.out.mono ?_
      rintro e w3 ⟨rfl, hc3⟩
      have HC3 := Lib.hid (HCR.out.then hc3)
      have HB3 := Lib.hid (HB.out.chg hc3)
      have hsz3 := Nat.le_trans hsz hc3.size
      clear hc3
      go_wp2_with fail
      with_reducible refine (bl_write w.heap.size w.heap.size (putA A) T w3 HB3.out (by omega) hsz3).mono ?_
      rintro e w4 ⟨rfl, hb4, hc4⟩
      rw [HTL.out, ← putA_add] at hb4
      have HB4 := Lib.hid hb4
      have HC4 := Lib.hid (HC3.out.trans hc4 fun k hk h => by omega)
      clear hb4 hc4
      go_wp2_with fail
      go_roundw
      case rel => exact ⟨A ++ [x], R, HL2.out, by simp, HB4.out, HC4.out⟩
      case measure => simp [intOf]; omega
end Go.Proofs.YtljabmkmngbhkaaGreatDoor
namespace Go.Proofs.YtljabmkmngbhkaaGreatDoor
open Go.RowKit
set_option linter.unusedVariables false
set_option linter.unusedSimpArgs false

set_option maxRecDepth 100000 in
set_option maxHeartbeats 4000000 in
theorem ba_good (e : EntryV) (w : World) : Calls Tryz.prog 76 #[entA e] w fun r w' => r = .returned (.int .i64 (goodI e)) ∧ Chg (fun _ => False) w w' := by
  obtain ⟨k, s, g, v, t⟩ := e
  have hg := fun W => sk_good ⟨k, 1, g, v, t⟩ W
  have hd : goodI ⟨k, s, g, v, t⟩ = if goodK ⟨k, 1, g, v, t⟩ ≠ 0 then goodK ⟨k, 1, g, v, t⟩ else if t = 9223372036854775807 then 2 else 0 := rfl
  obtain ⟨r, hr⟩ : ∃ r, goodK ⟨k, 1, g, v, t⟩ = r := ⟨_, rfl⟩
  rw [hr] at hg hd
  rw [hd]
  unfold entA at *
  simp only at *
  obtain ⟨w1, hw1⟩ : ∃ w1, w1 = w.alloc (.cells #[.string k, .int .i64 1, .bool g, .string v, .int .i64 t] 41) := ⟨_, rfl⟩
  have hb1 : Blk w1 w.heap.size 41 #[.string k, .int .i64 1, .bool g, .string v, .int .i64 t] := by rw [hw1]; exact Blk.new _ _ _
  have hc1 : Chg (fun _ => False) w w1 := by rw [hw1]; exact (Chg.refl _ _).alloc _
  have hlast : (if r ≠ 0 then r else if t = 9223372036854775807 then 2 else 0) = r ∨ r = 0 := by
    by_cases h : r = 0
    · exact .inr h
    · exact .inl (if_pos h)
  have y0 := hb1.cell 0
  have y1 := hb1.cell 1
  have y2 := hb1.cell 2
  have y3 := hb1.cell 3
  have y4 := hb1.cell 4
  simp at y0 y1 y2 y3 y4
  obtain ⟨z, hz⟩ : ∃ z, (if r ≠ 0 then r else if t = 9223372036854775807 then 2 else 0) = z := ⟨_, rfl⟩
  rw [hz]
  obtain ⟨bg, hbg⟩ : ∃ bg, w.heap.size = bg := ⟨_, rfl⟩
  rw [hbg] at y0 y1 y2 y3 y4 hb1
  have HG := Lib.hid hg
  have HW1 := Lib.hid hw1
  have HB1 := Lib.hid hb1
  have HC1 := Lib.hid hc1
  have HZ := Lib.hid hz
  have HBG := Lib.hid hbg
  clear hg hw1 hb1 hc1 hz hbg
  clear hd hr hlast
  go_enter Tryz.func76, Tryz.ntmps76
  go_upto_region 2 with fail
  rw [HBG.out]
  rw [← HW1.out]
  go_wp2_with fail
  refine (HG.out _).mono ?_
  rintro r' w2 ⟨rfl, hc2⟩
  have y4 := ky_chg hc2 y4
  have hc02 := HC1.out.then hc2
  have HC02 := Lib.hid hc02
  clear hc02
  clear hc2 y0 y1 y2 y3
  by_cases h0 : r = 0
  · subst h0
    have hz := HZ.out
    rw [if_neg (by simp)] at hz
    by_cases h1 : t = 9223372036854775807
    · rw [if_pos h1] at hz
      have q1 : (t == 9223372036854775807) = true := by simp [h1]
      have HZ2 := Lib.hid hz
      clear h1 hz
      go_wp2_with fail
      go_ret
      exact ⟨by have e := HZ2.out; subst e; rfl, HC02.out⟩
    · rw [if_neg h1] at hz
      have q1 : (t == 9223372036854775807) = false := by simp [h1]
      have HZ2 := Lib.hid hz
      clear h1 hz
      go_wp2_with fail
      go_ret
      exact ⟨by have e := HZ2.out; subst e; rfl, HC02.out⟩
  · have hz := HZ.out
    rw [if_pos h0] at hz
    have q1 : (r == 0) = false := by simp [h0]
    have q2 : (r != 0) = true := by simp [h0]
    have HZ2 := Lib.hid hz
    clear h0 hz
    go_wp2_with fail
    go_ret
    exact ⟨by have e := HZ2.out; subst e; rfl, HC02.out⟩
/-- A list of entries, read. -/
theorem ent_form {w : World} {v : Value} {l : List EntryV} (h : Lst entC w v l) : ∃ a cap, v = .slice a l.length cap ∧ l.length ≤ cap ∧ l.length ≤ 9223372036854775807 ∧ ∀ A x B, l = A ++ x :: B → ∃ b, a = some ⟨b, 0, none⟩ ∧ b < w.heap.size ∧ v.ownBlock = some b ∧
    w.cell? ⟨b, A.length * 5, none⟩ = some (.string x.key) ∧ w.cell? ⟨b, A.length * 5 + 1, none⟩ = some (.int .i64 x.seq) ∧ w.cell? ⟨b, A.length * 5 + 2, none⟩ = some (.bool x.gone) ∧ w.cell? ⟨b, A.length * 5 + 3, none⟩ = some (.string x.value) ∧ w.cell? ⟨b, A.length * 5 + 4, none⟩ = some (.int .i64 x.till) := by
  obtain ⟨a, cap, e, h1, h2, h3⟩ := h.form entOk
  refine ⟨a, cap, e, h1, h2, fun A x B hl => ?_⟩
  obtain ⟨b, ea, hb, ho, hc⟩ := h3 A x B hl
  exact ⟨b, ea, hb, ho, hc 0 _ rfl, hc 1 _ rfl, hc 2 _ rfl, hc 3 _ rfl, hc 4 _ rfl⟩
theorem sizeE_app (A : List EntryV) (x : EntryV) : sizeE (A ++ [x]) = sizeE A + (x.key.size + x.value.size) := by simp [sizeE]
theorem sizeE_le (l : List EntryV) : ∀ A R : List EntryV, l = A ++ R → sizeE A ≤ sizeE l := fun A R e => by subst e; simp [sizeE]
set_option maxRecDepth 100000 in
set_option maxHeartbeats 4000000 in
theorem ba_size (v : Value) (l : List EntryV) (hs : sizeE l ≤ 1000000000000) (w : World) (h : Lst entC w v l) : Calls Tryz.prog 79 #[v] w fun r w' => r = .returned (.int .i64 (sizeE l : Int)) ∧ Chg (fun _ => False) w w' := by
  obtain ⟨a, cap, rfl, h1, h2, h3⟩ := ent_form h
  have H3 := Lib.hid h3
  have H := Lib.hid h
  clear h3 h
  go_enter Tryz.func79, Tryz.ntmps79
  go_wp2_with fail
  go_loopw [3, 8] (fun n i wr => ∃ A R, l = A ++ R ∧ i = .int .i64 (A.length : Int) ∧ n = .int .i64 (sizeE A : Int) ∧ Chg (fun _ => False) w wr) (fun _ i _ => l.length - (intOf i).toNat)
  case atStart => exact ⟨[], l, rfl, rfl, rfl, Chg.refl _ _⟩
  case round =>
    obtain ⟨A, R, hl, rfl, rfl, hcr⟩ := hrel
    have hAl : A.length ≤ l.length := by rw [hl]; simp
    have hsA := sizeE_le l A R hl
    cases R with
    | nil =>
      have hlt : ¬ ((A.length : Int) < (l.length : Int)) := by rw [hl]; simp
      have hE : l = A := by rw [hl]; simp
      have HE := Lib.hid hE
      have HCR := Lib.hid hcr
      clear hE hcr
      clear hl
      go_wp2_with fail
      go_ret
      exact ⟨by rw [HE.out]; rfl, HCR.out⟩
    | cons x R =>
      have hlt : (A.length : Int) < (l.length : Int) := by rw [hl]; simp; omega
      obtain ⟨b, rfl, hb, _, z0, z1, z2, z3, z4⟩ := H3.out A x R hl
      have y0 := ky_chg hcr z0
      have y1 := ky_chg hcr z1
      have y2 := ky_chg hcr z2
      have y3 := ky_chg hcr z3
      have y4 := ky_chg hcr z4
      have hl2 : l = (A ++ [x]) ++ R := by rw [hl]; simp
      have hs2 := sizeE_le l _ R hl2
      have hap := sizeE_app A x
      have hk : x.key.size ≤ 1000000000000 := by omega
      have hv : x.value.size ≤ 1000000000000 := by omega
      have hA2 : sizeE A ≤ 1000000000000 := by omega
      have hAkv : sizeE A + (x.key.size + x.value.size) ≤ 1000000000000 := by omega
      have hge : (0 : Int) ≤ (A.length : Int) := by omega
      obtain ⟨sA, hsAe⟩ : ∃ sA, sizeE A = sA := ⟨_, rfl⟩
      rw [hsAe] at hap hA2 hAkv ⊢
      have HL2 := Lib.hid hl2
      have HCR := Lib.hid hcr
      have HAP := Lib.hid hap
      clear hl2 hcr hap
      clear hl hb z0 z1 z2 z3 z4 hs2 hsA hsAe
      go_wp2_with fail
      go_roundw
      case rel => exact ⟨A ++ [x], R, HL2.out, by simp, by rw [HAP.out]; first | rfl | simp, HCR.out.alloc _⟩
      case measure => simp [intOf]; omega
end Go.Proofs.YtljabmkmngbhkaaGreatDoor
