/-
  strings.Builder: WriteString and String of a builder that a call has made itself. The shelf's contracts at this seat's numbers.
-/
import Derived.Test.YtihkackkbdnagaaDoorLay
import Derived.Test.YtihkackkbdnagaaDoorBase
import Derived.Test.YtihkackkbdnagaaDoorProg
import Derived.Shelf.Strings.BuilderK
namespace Go.Proofs.YtihkackkbdnagaaDoor
open Go.RowKit Go.Shelf
set_option linter.unusedVariables false
set_option linter.unusedSimpArgs false

def bldR : Ren := ⟨fun | 166 => 14 | 240 => 22 | 276 => 27 | n => n, fun | 0 => 0 | 3 => 3 | 4 => 4 | 5 => 5 | 9 => 9 | 20 => 20 | 37 => 47 | 70 => 46 | 72 => 49 | 75 => 51 | 80 => 55 | 164 => 67 | n => n, fun n => n⟩
theorem bldL : Lays.n166 Tryd.prog bldR where
  mixed := by kernel_rfl
  f166 := Tryd.func14.trans (congrArg some (by kernel_rfl))
  f240 := Tryd.func22.trans (congrArg some (by kernel_rfl))
  f276 := Tryd.func27.trans (congrArg some (by kernel_rfl))
  t0 := Tryd.underlying0
  a0 := Tryd.isAgg0
  z0 := Tryd.sizeOf0
  v0 := Tryd.zeroValue0
  t3 := Tryd.underlying3
  a3 := Tryd.isAgg3
  z3 := Tryd.sizeOf3
  v3 := Tryd.zeroValue3
  t4 := Tryd.underlying4
  a4 := Tryd.isAgg4
  z4 := Tryd.sizeOf4
  v4 := Tryd.zeroValue4
  t9 := Tryd.underlying9
  a9 := Tryd.isAgg9
  z9 := Tryd.sizeOf9
  v9 := Tryd.zeroValue9
  t20 := Tryd.underlying20
  a20 := Tryd.isAgg20
  z20 := Tryd.sizeOf20
  v20 := Tryd.zeroValue20
  t37 := Tryd.underlying47
  a37 := Tryd.isAgg47
  z37 := Tryd.sizeOf47
  v37 := Tryd.zeroValue47
  t70 := Tryd.underlying46
  a70 := Tryd.isAgg46
  z70 := Tryd.sizeOf46
  v70 := Tryd.zeroValue46
  t72 := Tryd.underlying49
  a72 := Tryd.isAgg49
  z72 := Tryd.sizeOf49
  v72 := Tryd.zeroValue49
  t75 := Tryd.underlying51
  a75 := Tryd.isAgg51
  z75 := Tryd.sizeOf51
  v75 := Tryd.zeroValue51
  t164 := Tryd.underlying67
  a164 := Tryd.isAgg67
  z164 := Tryd.sizeOf67
  v164 := Tryd.zeroValue67
theorem bldX : Builder.Extra Tryd.prog bldR where
  sizeBuilder := by kernel_rfl
  liesBuilder := by kernel_rfl
  t5 := Tryd.underlying5
  a5 := Tryd.isAgg5
  z5 := Tryd.sizeOf5
  v5 := Tryd.zeroValue5
  infoByte := by kernel_rfl
  cellsByte := by kernel_rfl
  sizeByte := by kernel_rfl
  neB5 := by decide
theorem bldY : Builder.Extra Tryd.prog Tryd.blString_ren where
  sizeBuilder := by kernel_rfl
  liesBuilder := by kernel_rfl
  t5 := Tryd.underlying5
  a5 := Tryd.isAgg5
  z5 := Tryd.sizeOf5
  v5 := Tryd.zeroValue5
  infoByte := by kernel_rfl
  cellsByte := by kernel_rfl
  sizeByte := by kernel_rfl
  neB5 := by decide
/-- The builder of block b holds the bytes l; it and its row lie at B or behind it. -/
def BldAt (B b : Nat) (l : List UInt8) (w : World) : Prop := Lib.IsBuilderF 49 5 B b (Lib.byteCells l) w
theorem bld_new (w : World) : BldAt w.heap.size w.heap.size [] (w.alloc (.cells #[.pointer none, .slice none 0 0] 49)) := Lib.IsBuilderF.of (Lib.fresh_isBuilder _ _ w)
theorem bld_at_below {T e : TypeId} {B b : Nat} {p : Value} {bs : List Value} {W W' : World} (h : Lib.BuilderAtF T e B b p bs W) (hb : Below W.heap.size W W') : Lib.BuilderAtF T e B b p bs W' := by
  have hlt := h.lt
  obtain ⟨hB, v, hv, hown, hne⟩ := h
  exact ⟨hB, v, (hb.block b hlt).trans hv, hown.kept (row := none) ⟨hb.os, hb.tape, hb.output, hb.size, fun k hk _ => hb.block k hk⟩ (Classical.em _), hne⟩
theorem BldAt.chg {B b : Nat} {l : List UInt8} {w w' : World} (h : BldAt B b l w) (hc : Chg (fun _ => False) w w') : BldAt B b l w' :=
  h.elim (fun x => .inl (bld_at_below x hc.below)) (fun x => .inr (bld_at_below x hc.below))
theorem bl_write (B b : Nat) (l : List UInt8) (s : ByteArray) (w : World) (h : BldAt B b l w) (hl : l.length + s.size ≤ 140737488355328) (hB : B ≤ w.heap.size) :
    Calls Tryd.prog 14 #[.pointer (some ⟨b, 0, none⟩), .string s] w fun e w' => e = .returned (.tuple #[.int .i64 s.size, .nilIface]) ∧ BldAt B b (l ++ s.data.toList) w' ∧ Chg (fun k => B ≤ k) w w' := by
  have h1 := Any.Builder_WriteString_k bldL bldX B b (Lib.byteCells l) s w h (by rw [Lib.byteCells_length]; exact hl) hB
  refine Calls.mono h1 fun e w' ⟨he, hb, hbl, _⟩ => ⟨he, ?_, ⟨hbl.os, hbl.tape, hbl.output, hbl.size, fun k hk hn => hbl.block k (by omega)⟩⟩
  rw [Lib.strCells_eq, ← Lib.byteCells_append] at hb
  exact .inr hb
theorem ren_bls : Tryd.blString_ren.f 169 = 16 := by kernel_rfl
theorem bl_string (B b : Nat) (l : List UInt8) (w : World) (h : BldAt B b l w) (hB : B ≤ w.heap.size) :
    Calls Tryd.prog 16 #[.pointer (some ⟨b, 0, none⟩)] w fun e w' => e = .returned (.string ⟨l.toArray⟩) ∧ Chg (fun k => B ≤ k) w w' := by
  have h1 := Any.Builder_String_any_k Tryd.blString bldY B b l w h hB
  rw [ren_bls] at h1
  exact Calls.mono h1 fun e w' ⟨he, _, hbl, _⟩ => ⟨he, ⟨hbl.os, hbl.tape, hbl.output, hbl.size, fun k hk hn => hbl.block k (by omega)⟩⟩
end Go.Proofs.YtihkackkbdnagaaDoor
