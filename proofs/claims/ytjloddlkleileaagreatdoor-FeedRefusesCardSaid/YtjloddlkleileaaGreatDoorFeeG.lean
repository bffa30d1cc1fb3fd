/-
  The program's line of an item.
-/
import Derived.Test.YtjloddlkleileaaGreatDoorFeeD
import Derived.Test.YtjloddlkleileaaGreatDoorBld
import Derived.Lib.ItoaLen
import Derived.Deep.RegionHeld3
namespace Go.Proofs.YtjloddlkleileaaGreatDoor
open Go.RowKit Go.Shelf
set_option linter.unusedVariables false
set_option linter.unusedSimpArgs false

/-- An item's numbers are int64's. -/
def Fit (x : ItemV) : Prop := -9223372036854775808 ≤ x.time ∧ x.time ≤ 9223372036854775807 ∧ -9223372036854775808 ≤ x.val ∧ x.val ≤ 9223372036854775807
theorem lineV_len {x : ItemV} (h : Fit x) : (lineV x).length ≤ 50 := by
  have h1 := Lib.itoa_length_le x.time h.1 h.2.1
  have h2 := Lib.itoa_length_le x.val h.2.2.1 h.2.2.2
  unfold lineV
  split <;> simp <;> omega
theorem kg_drew {w : World} {p : Addr} {v : Value} (h : w.cell? p = some v) : w.drew.cell? p = some v := h
theorem kg_alloc {w : World} {p : Addr} {v : Value} (o : Obj) (h : w.cell? p = some v) : (w.alloc o).cell? p = some v := by
  have hlt := World.block_lt_of_cell? w p h
  exact (World.cell?_of_block (w := w) (Below.heap_alloc w o p.block hlt)).trans h
theorem kg_chg {w w' : World} {p : Addr} {v : Value} (hc : Chg (fun _ => False) w w') (h : w.cell? p = some v) : w'.cell? p = some v := (hc.cell (World.block_lt_of_cell? w p h) (by simp)).trans h
theorem add_ok (x y : ByteArray) (h : x.size + y.size ≤ 9223372036854775807) : Op.stringOp .add x y = pure (.string (x ++ y)) := by
  unfold Op.stringOp
  simp only
  rw [if_neg]
  simp [IntKind.max, IntKind.bits, IntKind.signed]
  omega
theorem kg_new (w : World) (v : Value) (t : TypeId) : (w.alloc (.cells #[v] t)).cell? ⟨w.heap.size, 0, none⟩ = some v := by
  rw [(Blk.new w t #[v]).cell 0]
  rfl
theorem run_oneC (g : Nat) (x : UInt8) (W : World) (h : W.cell? ⟨g, 0, none⟩ = some (.int .u8 (x.toNat : Int))) : (convert 116 9 (.slice (some ⟨g, 0, none⟩) 1 1)).run Tryz.prog W = .ok (.string ⟨#[x]⟩) W := by
  rw [run_convert_bytes_string W 116 9 5 _ 1 1 Tryz.underlying116 Tryz.underlying5 Tryz.underlying9]
  have hcells : ∀ j u, [Value.int .u8 (x.toNat : Int)][j]? = some u → W.cell? ((⟨g, 0, none⟩ : Addr).add j) = some u := fun j u hu => by
    have e : (⟨g, 0, none⟩ : Addr).add j = ⟨g, j, none⟩ := by rw [Addr.add_lit]; simp
    cases j with
    | zero => rw [e, h]; simpa using hu
    | succ j => simp at hu
  have hl : (loadCells ⟨g, 0, none⟩ (1 * 1)).run Tryz.prog W = .ok [Value.int .u8 (x.toNat : Int)].toArray W := run_firstCells_some W 1 1 ⟨g, 0, none⟩ 1 1 [Value.int .u8 (x.toNat : Int)] rfl hcells
  rw [Nat.mul_one] at hl
  rw [run_bytesToString W ⟨g, 0, none⟩ 1 1 [(x.toNat : Int)] hl]
  simp
  rfl
set_option maxRecDepth 100000 in
set_option maxHeartbeats 2000000 in
theorem fd_line (x : ItemV) (hx : Fit x) (w : World) (ht : Tab w) : Calls Tryz.prog 38 #[.agg (itemG x).toArray] w fun e w' => e = .returned (.string ⟨(lineV x).toArray⟩) ∧ Chg (fun _ => False) w w' := by
  obtain ⟨m, t, k, v⟩ := x
  obtain ⟨t1, t2, v1, v2⟩ := hx
  simp only at t1 t2 v1 v2
  have hf1 := fun W (hW : Chg (fun _ => False) w W) => fmt_itoa t t1 t2 W (ht.chg hW)
  have hf2 := fun W (hW : Chg (fun _ => False) w W) => fmt_itoa v v1 v2 W (ht.chg hW)
  have e1 : (Lib.itoa t).toArray.size ≤ 21 := by simpa using Lib.itoa_length_le t t1 t2
  have e2 : (Lib.itoa v).toArray.size ≤ 21 := by simpa using Lib.itoa_length_le v v1 v2
  obtain ⟨T, hT⟩ : ∃ T : ByteArray, (⟨(Lib.itoa t).toArray⟩ : ByteArray) = T := ⟨_, rfl⟩
  obtain ⟨V, hV⟩ : ∃ V : ByteArray, (⟨(Lib.itoa v).toArray⟩ : ByteArray) = V := ⟨_, rfl⟩
  have hTl : Lib.itoa t = T.data.toList := by rw [← hT]
  have hVl : Lib.itoa v = V.data.toList := by rw [← hV]
  have s1 : T.size ≤ 21 := by rw [← hT]; exact e1
  have s2 : V.size ≤ 21 := by rw [← hV]; exact e2
  simp only [hT] at hf1
  simp only [hV] at hf2
  have HF1 := Lib.hid hf1
  have HF2 := Lib.hid hf2
  have HT := Lib.hid hTl
  have HV := Lib.hid hVl
  clear hf1 hf2 hT hV hTl hVl e1 e2 t1 t2 v1 v2 ht
  obtain ⟨w1, hw1⟩ : ∃ w1, w1 = w.alloc (.cells #[.bool m, .int .i64 t, .int .u8 (k.toNat : Int), .int .i64 v] 56) := ⟨_, rfl⟩
  have hc1 : Chg (fun _ => False) w w1 := by rw [hw1]; ((repeat (first | exact Chg.refl _ _ | assumption | refine Chg.drewN ?_ _ | refine Chg.drew ?_ | refine Chg.alloc ?_ _ | refine Chg.setCell ?_ (by first | (simp; done) | (simp; omega) | (intro h; simp at h; omega)) _)))
  have hb1 : Blk w1 w.heap.size 56 #[.bool m, .int .i64 t, .int .u8 (k.toNat : Int), .int .i64 v] := by rw [hw1]; exact Blk.new _ _ _
  have y1 := hb1.cell 1
  simp at y1
  have HW1 := Lib.hid hw1
  have HC1 := Lib.hid hc1
  have HB1 := Lib.hid hb1
  clear hw1 hc1 hb1
  show Calls Tryz.prog 38 #[.agg #[.bool m, .int .i64 t, .int .u8 (k.toNat : Int), .int .i64 v]] w _
  go_enter Tryz.func38, Tryz.ntmps38
  go_upto_region 1 with fail
  rw [← HW1.out]
  go_wp2_with fail
  refine (HF1.out w1 HC1.out).mono ?_
  rintro e w2 ⟨rfl, hc2⟩
  have hb2 := HB1.out.chg hc2 (by simp)
  have y0 := hb2.cell 0
  have y2 := hb2.cell 2
  have y3 := hb2.cell 3
  simp at y0 y2 y3
  have HC2 := Lib.hid (HC1.out.then hc2)
  have HB2 := Lib.hid hb2
  clear hc2 hb2 y1
  cases m with
  | true =>
    go_wp2_with fail
    refine bodyPost_ret (v := .string (⟨#[77, 32]⟩ ++ T)) (by simp [results, Tryz.results38, go_sem]) rfl ⟨?_, HC2.out⟩
    exact congrArg (fun x => Ending.returned (.string x)) (ba_eq (by simp [lineV, HT.out]))
  | false =>
    have hcv := fun (W : World) (g : Nat) (h : W.cell? ⟨g, 0, none⟩ = some (.int .u8 (k.toNat : Int))) => run_oneC g k W h
    have a1 := add_ok ⟨#[69, 32]⟩ T (by have : (⟨#[69, 32]⟩ : ByteArray).size = 2 := rfl; omega)
    have a2 := add_ok (⟨#[69, 32]⟩ ++ T) ⟨#[32]⟩ (by have : (⟨#[69, 32]⟩ : ByteArray).size = 2 := rfl; have : (⟨#[32]⟩ : ByteArray).size = 1 := rfl; rw [ByteArray.size_append]; omega)
    have a3 := add_ok (⟨#[69, 32]⟩ ++ T ++ ⟨#[32]⟩) ⟨#[k]⟩ (by have : (⟨#[69, 32]⟩ : ByteArray).size = 2 := rfl; have : (⟨#[32]⟩ : ByteArray).size = 1 := rfl; have : (⟨#[k]⟩ : ByteArray).size = 1 := rfl; rw [ByteArray.size_append, ByteArray.size_append]; omega)
    have a4 := add_ok (⟨#[69, 32]⟩ ++ T ++ ⟨#[32]⟩ ++ ⟨#[k]⟩) ⟨#[32]⟩ (by have : (⟨#[69, 32]⟩ : ByteArray).size = 2 := rfl; have : (⟨#[32]⟩ : ByteArray).size = 1 := rfl; have : (⟨#[k]⟩ : ByteArray).size = 1 := rfl; rw [ByteArray.size_append, ByteArray.size_append, ByteArray.size_append]; omega)
    have a5 := add_ok (⟨#[69, 32]⟩ ++ T ++ ⟨#[32]⟩ ++ ⟨#[k]⟩ ++ ⟨#[32]⟩) V (by have : (⟨#[69, 32]⟩ : ByteArray).size = 2 := rfl; have : (⟨#[32]⟩ : ByteArray).size = 1 := rfl; have : (⟨#[k]⟩ : ByteArray).size = 1 := rfl; rw [ByteArray.size_append, ByteArray.size_append, ByteArray.size_append, ByteArray.size_append]; omega)
    go_wp2_with fail
    go_region_held (fun w' => Chg (fun _ => False) w2 w' ∧ w'.cell? ⟨w.heap.size, 2, none⟩ = some (.int .u8 (k.toNat : Int)) ∧ w'.cell? ⟨w.heap.size, 3, none⟩ = some (.int .i64 v))
      ((go_split_ands; (try dsimp only); (repeat' with_reducible apply And.intro) <;> (repeat (first | with_reducible assumption | with_reducible exact Chg.refl _ _ | with_reducible refine kg_drew ?_ | with_reducible refine kg_alloc _ ?_ | with_reducible refine Chg.drew ?_ | with_reducible refine Chg.alloc ?_ _ | with_reducible refine kg_chg hc3 ?_ | with_reducible refine Chg.then ?_ hc3))))
      (first | (go_at_call 77; refine (HF2.out _ (HC2.out.then (by go_split_ands; first | with_reducible assumption | (with_reducible refine Chg.drew ?_; with_reducible assumption) | (with_reducible refine Chg.alloc ?_ _; with_reducible assumption) | (with_reducible refine Chg.drew ?_; with_reducible refine Chg.alloc ?_ _; with_reducible assumption)))).mono ?_; rintro e w3 ⟨rfl, hc3⟩; (first | (have hz := kg_chg hc3 (kg_new _ _ _)) | skip)))
    all_goals
      have hcT : Chg (fun _ => False) w2 w3 := by go_split_ands; first | with_reducible assumption | exact Chg.then (by assumption) hc3 | exact Chg.then ((Chg.refl _ _).drew) hc3 | exact Chg.then (((Chg.refl _ _).alloc _).drew) hc3 | exact Chg.then (((Chg.refl _ _).drew).alloc _) hc3
      clear a1 a2 a3 a4 a5 hcv
      have HCT := Lib.hid (HC2.out.then hcT)
      clear hcT hc3
      go_wp2_with fail
      refine bodyPost_ret (v := .string (⟨#[69, 32]⟩ ++ T ++ ⟨#[32]⟩ ++ ⟨#[k]⟩ ++ ⟨#[32]⟩ ++ V)) (by simp [results, Tryz.results38, go_sem]) rfl ⟨?_, by first | exact HCT.out | exact HCT.out.alloc _⟩
      exact congrArg (fun x => Ending.returned (.string x)) (ba_eq (by simp [lineV, HT.out, HV.out]))
end Go.Proofs.YtjloddlkleileaaGreatDoor
