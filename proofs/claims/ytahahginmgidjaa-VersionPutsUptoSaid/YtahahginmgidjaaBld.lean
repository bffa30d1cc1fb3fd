/-
  strings.Builder: WriteString and String of a builder that a call has made itself. The shelf's contracts at this seat's numbers.
-/
import Derived.Test.YtahahginmgidjaaLay
import Derived.Test.YtahahginmgidjaaBase
import Derived.Test.YtahahginmgidjaaProg
import Derived.Shelf.Strings.BuilderK
namespace Go.Proofs.Ytahahginmgidjaa
open Go.RowKit Go.Shelf
set_option linter.unusedVariables false
set_option linter.unusedSimpArgs false

def bldR : Ren := ⟨fun | 166 => 20 | 240 => 34 | 276 => 42 | n => n, fun | 0 => 0 | 3 => 3 | 4 => 4 | 5 => 5 | 9 => 9 | 20 => 20 | 37 => 73 | 70 => 72 | 72 => 75 | 75 => 77 | 80 => 57 | 164 => 106 | n => n, fun n => n⟩
theorem bldL : Lays.n166 Try.prog bldR where
  mixed := by kernel_rfl
  f166 := Try.func20.trans (congrArg some (by kernel_rfl))
  f240 := Try.func34.trans (congrArg some (by kernel_rfl))
  f276 := Try.func42.trans (congrArg some (by kernel_rfl))
  t0 := Try.underlying0
  a0 := Try.isAgg0
  z0 := Try.sizeOf0
  v0 := Try.zeroValue0
  t3 := Try.underlying3
  a3 := Try.isAgg3
  z3 := Try.sizeOf3
  v3 := Try.zeroValue3
  t4 := Try.underlying4
  a4 := Try.isAgg4
  z4 := Try.sizeOf4
  v4 := Try.zeroValue4
  t9 := Try.underlying9
  a9 := Try.isAgg9
  z9 := Try.sizeOf9
  v9 := Try.zeroValue9
  t20 := Try.underlying20
  a20 := Try.isAgg20
  z20 := Try.sizeOf20
  v20 := Try.zeroValue20
  t37 := Try.underlying73
  a37 := Try.isAgg73
  z37 := Try.sizeOf73
  v37 := Try.zeroValue73
  t70 := Try.underlying72
  a70 := Try.isAgg72
  z70 := Try.sizeOf72
  v70 := Try.zeroValue72
  t72 := Try.underlying75
  a72 := Try.isAgg75
  z72 := Try.sizeOf75
  v72 := Try.zeroValue75
  t75 := Try.underlying77
  a75 := Try.isAgg77
  z75 := Try.sizeOf77
  v75 := Try.zeroValue77
  t164 := Try.underlying106
  a164 := Try.isAgg106
  z164 := Try.sizeOf106
  v164 := Try.zeroValue106
theorem bldX : Builder.Extra Try.prog bldR where
  sizeBuilder := by kernel_rfl
  liesBuilder := by kernel_rfl
  t5 := Try.underlying5
  a5 := Try.isAgg5
  z5 := Try.sizeOf5
  v5 := Try.zeroValue5
  infoByte := by kernel_rfl
  cellsByte := by kernel_rfl
  sizeByte := by kernel_rfl
  neB5 := by decide
theorem bldY : Builder.Extra Try.prog Try.blString_ren where
  sizeBuilder := by kernel_rfl
  liesBuilder := by kernel_rfl
  t5 := Try.underlying5
  a5 := Try.isAgg5
  z5 := Try.sizeOf5
  v5 := Try.zeroValue5
  infoByte := by kernel_rfl
  cellsByte := by kernel_rfl
  sizeByte := by kernel_rfl
  neB5 := by decide
/-- The builder of block b holds the bytes l; it and its row lie at B or behind it. -/
def BldAt (B b : Nat) (l : List UInt8) (w : World) : Prop := Lib.IsBuilderF 75 5 B b (Lib.byteCells l) w
theorem bld_new (w : World) : BldAt w.heap.size w.heap.size [] (w.alloc (.cells #[.pointer none, .slice none 0 0] 75)) := Lib.IsBuilderF.of (Lib.fresh_isBuilder _ _ w)
theorem bld_at_below {T e : TypeId} {B b : Nat} {p : Value} {bs : List Value} {W W' : World} (h : Lib.BuilderAtF T e B b p bs W) (hb : Below W.heap.size W W') : Lib.BuilderAtF T e B b p bs W' := by
  have hlt := h.lt
  obtain ⟨hB, v, hv, hown, hne⟩ := h
  exact ⟨hB, v, (hb.block b hlt).trans hv, hown.kept (row := none) ⟨hb.os, hb.tape, hb.output, hb.size, fun k hk _ => hb.block k hk⟩ (Classical.em _), hne⟩
theorem BldAt.chg {B b : Nat} {l : List UInt8} {w w' : World} (h : BldAt B b l w) (hc : Chg (fun _ => False) w w') : BldAt B b l w' :=
  h.elim (fun x => .inl (bld_at_below x hc.below)) (fun x => .inr (bld_at_below x hc.below))
theorem bl_write (B b : Nat) (l : List UInt8) (s : ByteArray) (w : World) (h : BldAt B b l w) (hl : l.length + s.size ≤ 140737488355328) (hB : B ≤ w.heap.size) :
    Calls Try.prog 20 #[.pointer (some ⟨b, 0, none⟩), .string s] w fun e w' => e = .returned (.tuple #[.int .i64 s.size, .nilIface]) ∧ BldAt B b (l ++ s.data.toList) w' ∧ Chg (fun k => B ≤ k) w w' := by
  have h1 := Any.Builder_WriteString_k bldL bldX B b (Lib.byteCells l) s w h (by rw [Lib.byteCells_length]; exact hl) hB
  refine Calls.mono h1 fun e w' ⟨he, hb, hbl, _⟩ => ⟨he, ?_, ⟨hbl.os, hbl.tape, hbl.output, hbl.size, fun k hk hn => hbl.block k (by omega)⟩⟩
  rw [Lib.strCells_eq, ← Lib.byteCells_append] at hb
  exact .inr hb
/-- .. and whatever is neither the builder nor a row of bytes stands as it stood. -/
theorem bl_write_k (B b : Nat) (l : List UInt8) (s : ByteArray) (w : World) (h : BldAt B b l w) (hl : l.length + s.size ≤ 140737488355328) (hB : B ≤ w.heap.size) :
    Calls Try.prog 20 #[.pointer (some ⟨b, 0, none⟩), .string s] w fun e w' => e = .returned (.tuple #[.int .i64 s.size, .nilIface]) ∧ BldAt B b (l ++ s.data.toList) w' ∧ Chg (fun k => B ≤ k) w w' ∧ (∀ g t cs, Blk w g t cs → g ≠ b → t ≠ 5 → Blk w' g t cs) := by
  have h1 := Any.Builder_WriteString_k bldL bldX B b (Lib.byteCells l) s w h (by rw [Lib.byteCells_length]; exact hl) hB
  refine Calls.mono h1 fun e w' ⟨he, hb, hbl, ho⟩ => ⟨he, ?_, ⟨hbl.os, hbl.tape, hbl.output, hbl.size, fun k hk hn => hbl.block k (by omega)⟩, fun g t cs hk hg ht => ?_⟩
  · rw [Lib.strCells_eq, ← Lib.byteCells_append] at hb
    exact .inr hb
  · refine ho g _ hk (fun e => hg (Option.some.inj e)) fun c fz e => ?_
    injection e with _ e _
    exact ht e
theorem ren_bls : Try.blString_ren.f 169 = 24 := by kernel_rfl
theorem bl_string (B b : Nat) (l : List UInt8) (w : World) (h : BldAt B b l w) (hB : B ≤ w.heap.size) :
    Calls Try.prog 24 #[.pointer (some ⟨b, 0, none⟩)] w fun e w' => e = .returned (.string ⟨l.toArray⟩) ∧ Chg (fun k => B ≤ k) w w' := by
  have h1 := Any.Builder_String_any_k Try.blString bldY B b l w h hB
  rw [ren_bls] at h1
  exact Calls.mono h1 fun e w' ⟨he, _, hbl, _⟩ => ⟨he, ⟨hbl.os, hbl.tape, hbl.output, hbl.size, fun k hk hn => hbl.block k (by omega)⟩⟩
end Go.Proofs.Ytahahginmgidjaa
