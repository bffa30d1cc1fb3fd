/-
  strings.Builder: WriteString and String of a builder that a call has made itself. The shelf's contracts at this seat's numbers.
-/
import Derived.Test.YtjloddlkleileaaGreatDoorLay
import Derived.Test.YtjloddlkleileaaGreatDoorBase
import Derived.Test.YtjloddlkleileaaGreatDoorProg
import Derived.Shelf.Strings.BuilderK
namespace Go.Proofs.YtjloddlkleileaaGreatDoor
open Go.RowKit Go.Shelf
set_option linter.unusedVariables false
set_option linter.unusedSimpArgs false

def bldR : Ren := ⟨fun | 166 => 37 | 240 => 76 | 276 => 121 | n => n, fun | 0 => 0 | 3 => 3 | 4 => 4 | 5 => 5 | 9 => 9 | 20 => 20 | 37 => 116 | 70 => 115 | 72 => 118 | 75 => 120 | 80 => 124 | 164 => 256 | n => n, fun n => n⟩
theorem bldL : Lays.n166 Tryz.prog bldR where
  mixed := by kernel_rfl
  f166 := Tryz.func37.trans (congrArg some (by kernel_rfl))
  f240 := Tryz.func76.trans (congrArg some (by kernel_rfl))
  f276 := Tryz.func121.trans (congrArg some (by kernel_rfl))
  t0 := Tryz.underlying0
  a0 := Tryz.isAgg0
  z0 := Tryz.sizeOf0
  v0 := Tryz.zeroValue0
  t3 := Tryz.underlying3
  a3 := Tryz.isAgg3
  z3 := Tryz.sizeOf3
  v3 := Tryz.zeroValue3
  t4 := Tryz.underlying4
  a4 := Tryz.isAgg4
  z4 := Tryz.sizeOf4
  v4 := Tryz.zeroValue4
  t9 := Tryz.underlying9
  a9 := Tryz.isAgg9
  z9 := Tryz.sizeOf9
  v9 := Tryz.zeroValue9
  t20 := Tryz.underlying20
  a20 := Tryz.isAgg20
  z20 := Tryz.sizeOf20
  v20 := Tryz.zeroValue20
  t37 := Tryz.underlying116
  a37 := Tryz.isAgg116
  z37 := Tryz.sizeOf116
  v37 := Tryz.zeroValue116
  t70 := Tryz.underlying115
  a70 := Tryz.isAgg115
  z70 := Tryz.sizeOf115
  v70 := Tryz.zeroValue115
  t72 := Tryz.underlying118
  a72 := Tryz.isAgg118
  z72 := Tryz.sizeOf118
  v72 := Tryz.zeroValue118
  t75 := Tryz.underlying120
  a75 := Tryz.isAgg120
  z75 := Tryz.sizeOf120
  v75 := Tryz.zeroValue120
  t164 := Tryz.underlying256
  a164 := Tryz.isAgg256
  z164 := Tryz.sizeOf256
  v164 := Tryz.zeroValue256
theorem bldX : Builder.Extra Tryz.prog bldR where
  sizeBuilder := by kernel_rfl
  liesBuilder := by kernel_rfl
  t5 := Tryz.underlying5
  a5 := Tryz.isAgg5
  z5 := Tryz.sizeOf5
  v5 := Tryz.zeroValue5
  infoByte := by kernel_rfl
  cellsByte := by kernel_rfl
  sizeByte := by kernel_rfl
  neB5 := by decide
theorem bldY : Builder.Extra Tryz.prog Tryz.blString_ren where
  sizeBuilder := by kernel_rfl
  liesBuilder := by kernel_rfl
  t5 := Tryz.underlying5
  a5 := Tryz.isAgg5
  z5 := Tryz.sizeOf5
  v5 := Tryz.zeroValue5
  infoByte := by kernel_rfl
  cellsByte := by kernel_rfl
  sizeByte := by kernel_rfl
  neB5 := by decide
/-- The builder of block b holds the bytes l; it and its row lie at B or behind it. -/
def BldAt (B b : Nat) (l : List UInt8) (w : World) : Prop := Lib.IsBuilderF 118 5 B b (Lib.byteCells l) w
theorem bld_new (w : World) : BldAt w.heap.size w.heap.size [] (w.alloc (.cells #[.pointer none, .slice none 0 0] 118)) := Lib.IsBuilderF.of (Lib.fresh_isBuilder _ _ w)
theorem bld_at_below {T e : TypeId} {B b : Nat} {p : Value} {bs : List Value} {W W' : World} (h : Lib.BuilderAtF T e B b p bs W) (hb : Below W.heap.size W W') : Lib.BuilderAtF T e B b p bs W' := by
  have hlt := h.lt
  obtain ⟨hB, v, hv, hown, hne⟩ := h
  exact ⟨hB, v, (hb.block b hlt).trans hv, hown.kept (row := none) ⟨hb.os, hb.tape, hb.output, hb.size, fun k hk _ => hb.block k hk⟩ (Classical.em _), hne⟩
theorem BldAt.chg {B b : Nat} {l : List UInt8} {w w' : World} (h : BldAt B b l w) (hc : Chg (fun _ => False) w w') : BldAt B b l w' :=
  h.elim (fun x => .inl (bld_at_below x hc.below)) (fun x => .inr (bld_at_below x hc.below))
theorem bl_write (B b : Nat) (l : List UInt8) (s : ByteArray) (w : World) (h : BldAt B b l w) (hl : l.length + s.size ≤ 140737488355328) (hB : B ≤ w.heap.size) :
    Calls Tryz.prog 37 #[.pointer (some ⟨b, 0, none⟩), .string s] w fun e w' => e = .returned (.tuple #[.int .i64 s.size, .nilIface]) ∧ BldAt B b (l ++ s.data.toList) w' ∧ Chg (fun k => B ≤ k) w w' := by
  have h1 := Any.Builder_WriteString_k bldL bldX B b (Lib.byteCells l) s w h (by rw [Lib.byteCells_length]; exact hl) hB
  refine Calls.mono h1 fun e w' ⟨he, hb, hbl, _⟩ => ⟨he, ?_, ⟨hbl.os, hbl.tape, hbl.output, hbl.size, fun k hk hn => hbl.block k (by omega)⟩⟩
  rw [Lib.strCells_eq, ← Lib.byteCells_append] at hb
  exact .inr hb
/-- .. and whatever is neither the builder nor a row of bytes stands as it stood. -/
theorem bl_write_k (B b : Nat) (l : List UInt8) (s : ByteArray) (w : World) (h : BldAt B b l w) (hl : l.length + s.size ≤ 140737488355328) (hB : B ≤ w.heap.size) :
    Calls Tryz.prog 37 #[.pointer (some ⟨b, 0, none⟩), .string s] w fun e w' => e = .returned (.tuple #[.int .i64 s.size, .nilIface]) ∧ BldAt B b (l ++ s.data.toList) w' ∧ Chg (fun k => B ≤ k) w w' ∧ (∀ g t cs, Blk w g t cs → g ≠ b → t ≠ 5 → Blk w' g t cs) := by
  have h1 := Any.Builder_WriteString_k bldL bldX B b (Lib.byteCells l) s w h (by rw [Lib.byteCells_length]; exact hl) hB
  refine Calls.mono h1 fun e w' ⟨he, hb, hbl, ho⟩ => ⟨he, ?_, ⟨hbl.os, hbl.tape, hbl.output, hbl.size, fun k hk hn => hbl.block k (by omega)⟩, fun g t cs hk hg ht => ?_⟩
  · rw [Lib.strCells_eq, ← Lib.byteCells_append] at hb
    exact .inr hb
  · refine ho g _ hk (fun e => hg (Option.some.inj e)) fun c fz e => ?_
    injection e with _ e _
    exact ht e
theorem ren_bls : Tryz.blString_ren.f 169 = 39 := by kernel_rfl
theorem bl_string (B b : Nat) (l : List UInt8) (w : World) (h : BldAt B b l w) (hB : B ≤ w.heap.size) :
    Calls Tryz.prog 39 #[.pointer (some ⟨b, 0, none⟩)] w fun e w' => e = .returned (.string ⟨l.toArray⟩) ∧ Chg (fun k => B ≤ k) w w' := by
  have h1 := Any.Builder_String_any_k Tryz.blString bldY B b l w h hB
  rw [ren_bls] at h1
  exact Calls.mono h1 fun e w' ⟨he, _, hbl, _⟩ => ⟨he, ⟨hbl.os, hbl.tape, hbl.output, hbl.size, fun k hk hn => hbl.block k (by omega)⟩⟩
end Go.Proofs.YtjloddlkleileaaGreatDoor
