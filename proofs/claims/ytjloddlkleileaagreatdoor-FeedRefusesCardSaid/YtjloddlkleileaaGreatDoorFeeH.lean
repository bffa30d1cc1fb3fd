/-
  The program's text of items.
-/
import Derived.Test.YtjloddlkleileaaGreatDoorFeeG
namespace Go.Proofs.YtjloddlkleileaaGreatDoor
open Go.RowKit Go.Shelf
set_option linter.unusedVariables false
set_option linter.unusedSimpArgs false

/-- An element of a list of items: its four cells. -/
theorem item_read {w : World} {v : Value} {l : List ItemV} (h : Lst itemC w v l) : ∃ a cap, v = .slice a l.length cap ∧ l.length ≤ cap ∧ l.length ≤ 9223372036854775807 ∧ ∀ A x B, l = A ++ x :: B → ∃ b, a = some ⟨b, 0, none⟩ ∧ b < w.heap.size ∧ v.ownBlock = some b ∧
    w.cell? ⟨b, A.length * 4, none⟩ = some (.bool x.mark) ∧ w.cell? ⟨b, A.length * 4 + 1, none⟩ = some (.int .i64 x.time) ∧ w.cell? ⟨b, A.length * 4 + 2, none⟩ = some (.int .u8 (x.kind.toNat : Int)) ∧ w.cell? ⟨b, A.length * 4 + 3, none⟩ = some (.int .i64 x.val) := by
  obtain ⟨a, cap, rfl, h1, h2, h3⟩ := h.form itemOk
  refine ⟨a, cap, rfl, h1, h2, fun A x B hl => ?_⟩
  obtain ⟨b, rfl, hb, ho, hc⟩ := h3 A x B hl
  exact ⟨b, rfl, hb, ho, hc 0 _ rfl, hc 1 _ rfl, hc 2 _ rfl, hc 3 _ rfl⟩
theorem showV_len {l : List ItemV} (h : ∀ x ∈ l, Fit x) : (showV l).length ≤ 51 * l.length := by
  induction l with
  | nil => exact Nat.le_refl _
  | cons x r ih =>
    have h1 := lineV_len (h x (by simp))
    have h2 := ih fun y hy => h y (by simp [hy])
    have e : (showV (x :: r)).length = (lineV x).length + 1 + (showV r).length := by simp [showV]; omega
    have e2 : (x :: r).length = r.length + 1 := rfl
    omega
theorem showV_add (A : List ItemV) (x : ItemV) : showV (A ++ [x]) = showV A ++ (lineV x ++ [10]) := by simp [showV]
set_option maxRecDepth 100000 in
set_option maxHeartbeats 2000000 in
theorem fd_show (v : Value) (l : List ItemV) (w : World) (hL : Lst itemC w v l) (hfit : ∀ x ∈ l, Fit x) (hlen : l.length ≤ 1000000000) (ht : Tab w) : Calls Tryz.prog 22 #[v] w fun e w' => e = .returned (.string ⟨(showV l).toArray⟩) ∧ Chg (fun _ => False) w w' := by
  obtain ⟨a, cap, rfl, h1, h2, hread⟩ := item_read hL
  obtain ⟨w1, hw1⟩ : ∃ w1, w1 = w.alloc (.cells #[.pointer none, .slice none 0 0] 118) := ⟨_, rfl⟩
  have hc1 : Chg (fun _ => False) w w1 := by rw [hw1]; ((repeat (first | exact Chg.refl _ _ | assumption | refine Chg.drewN ?_ _ | refine Chg.drew ?_ | refine Chg.alloc ?_ _ | refine Chg.setCell ?_ (by first | (simp; done) | (simp; omega) | (intro h; simp at h; omega)) _)))
  have hb1 : BldAt w.heap.size w.heap.size [] w1 := by rw [hw1]; exact bld_new w
  have HW1 := Lib.hid hw1
  have HC1 := Lib.hid hc1
  have HB1 := Lib.hid hb1
  have HREAD := Lib.hid hread
  have HFIT := Lib.hid hfit
  have HT := Lib.hid ht
  clear hw1 hc1 hb1 hread hfit ht hL
  go_enter Tryz.func22, Tryz.ntmps22
  go_upto_region 2 with fail
  rw [← HW1.out]
  go_wp2_with fail
  go_loopw [8] (fun i wr => ∃ A R, l = A ++ R ∧ i = .int .i64 (A.length : Int) ∧ BldAt w.heap.size w.heap.size (showV A) wr ∧ Chg (fun _ => False) w wr) (fun i _ => l.length - (intOf i).toNat)
  case atStart => exact ⟨[], l, rfl, rfl, HB1.out, HC1.out⟩
  case round =>
    obtain ⟨A, R, hl, rfl, hB, hcr⟩ := hrel
    have hAl : A.length ≤ l.length := by rw [hl]; simp
    have HB := Lib.hid hB
    have HCR := Lib.hid hcr
    have hsz := hcr.size
    clear hB hcr
    cases R with
    | nil =>
      have hge : ¬ ((A.length : Int) < (l.length : Int)) := by rw [hl]; simp
      have hE : l = A := by rw [hl]; simp
      have HE := Lib.hid hE
      clear hl hE
      go_wp2_with fail
      refine (bl_string _ _ _ _ HB.out hsz).mono ?_
      rintro e w2 ⟨rfl, hc2⟩
      have HC2 := Lib.hid (HCR.out.trans hc2 fun k hk h => by omega)
      clear hc2
      go_wp2_with fail
      go_ret
      exact ⟨by rw [HE.out]; rfl, HC2.out⟩
    | cons x R =>
      have hlt : (A.length : Int) < (l.length : Int) := by rw [hl]; simp; omega
      obtain ⟨b, rfl, hb, hob, z0, z1, z2, z3⟩ := HREAD.out A x R hl
      have y0 := kg_chg HCR.out z0
      have y1 := kg_chg HCR.out z1
      have y2 := kg_chg HCR.out z2
      have y3 := kg_chg HCR.out z3
      have hx := HFIT.out x (by rw [hl]; simp)
      have hfA : ∀ y ∈ A, Fit y := fun y hy => HFIT.out y (by rw [hl]; simp [hy])
      have hshl := showV_len hfA
      have hxl := lineV_len hx
      have hl2 : l = (A ++ [x]) ++ R := by rw [hl]; simp
      have HL2 := Lib.hid hl2
      have HX := Lib.hid hx
      have hge : (0 : Int) ≤ (A.length : Int) := by omega
      clear hl hl2 hx hfA z0 z1 z2 z3 hb hob
      obtain ⟨w2, hw2⟩ : ∃ w2, w2 = wr.alloc (.cells #[.bool x.mark, .int .i64 x.time, .int .u8 (x.kind.toNat : Int), .int .i64 x.val] 56) := ⟨_, rfl⟩
      have hc2 : Chg (fun _ => False) wr w2 := by rw [hw2]; ((repeat (first | exact Chg.refl _ _ | assumption | refine Chg.drewN ?_ _ | refine Chg.drew ?_ | refine Chg.alloc ?_ _ | refine Chg.setCell ?_ (by first | (simp; done) | (simp; omega) | (intro h; simp at h; omega)) _)))
      have hb2 : Blk w2 wr.heap.size 56 #[.bool x.mark, .int .i64 x.time, .int .u8 (x.kind.toNat : Int), .int .i64 x.val] := by rw [hw2]; exact Blk.new _ _ _
      have v0 := hb2.cell 0
      have v1 := hb2.cell 1
      have v2 := hb2.cell 2
      have v3 := hb2.cell 3
      simp at v0 v1 v2 v3
      have HW2 := Lib.hid hw2
      have HC2 := Lib.hid (HCR.out.then hc2)
      have HB2 := Lib.hid (HB.out.chg hc2)
      have hln : Calls Tryz.prog 38 #[.agg #[.bool x.mark, .int .i64 x.time, .int .u8 (x.kind.toNat : Int), .int .i64 x.val]] w2 fun e w' => e = .returned (.string ⟨(lineV x).toArray⟩) ∧ Chg (fun _ => False) w2 w' := fd_line x HX.out w2 (HT.out.chg HC2.out)
      have HLN := Lib.hid hln
      have hsz2 := Nat.le_trans hsz hc2.size
      clear hw2 hc2 hb2 hln
      go_upto_region 5 with fail
      rw [← HW2.out]
      clear y0 y1 y2 y3
      obtain ⟨LN, hLN⟩ : ∃ LN : ByteArray, (⟨(lineV x).toArray⟩ : ByteArray) = LN := ⟨_, rfl⟩
      have hLNl : lineV x = LN.data.toList := by rw [← hLN]
      have hLNs : LN.size ≤ 50 := by rw [← hLN]; show (lineV x).toArray.size ≤ 50; rw [List.size_toArray]; exact hxl
      have HLN := HLN
      rw [hLN] at HLN
      have hadd := add_ok LN ⟨#[10]⟩ (by have : (⟨#[10]⟩ : ByteArray).size = 1 := rfl; omega)
      have hLNs2 : (LN ++ (⟨#[10]⟩ : ByteArray)).size ≤ 51 := by rw [ByteArray.size_append]; have : (⟨#[10]⟩ : ByteArray).size = 1 := rfl; omega
      have hLN2 : (LN ++ (⟨#[10]⟩ : ByteArray)).data.toList = lineV x ++ [10] := by rw [hLNl]; simp
      have HLN2 := Lib.hid hLN2
      clear hLN hLNl hLN2
      go_wp2_with fail
      refine HLN.out.mono ?_
      rintro e w3 ⟨rfl, hc3⟩
      have HC3 := Lib.hid (HC2.out.then hc3)
      have HB3 := Lib.hid (HB2.out.chg hc3)
      have hsz3 := Nat.le_trans hsz2 hc3.size
      clear hc3
      go_wp2_with fail
      with_reducible refine (bl_write w.heap.size w.heap.size (showV A) (LN ++ ⟨#[10]⟩) w3 HB3.out (by omega) hsz3).mono ?_
      rintro e w4 ⟨rfl, hb4, hc4⟩
      rw [HLN2.out, ← showV_add] at hb4
      have HB4 := Lib.hid hb4
      have HC4 := Lib.hid (HC3.out.trans hc4 fun k hk h => by omega)
      clear hb4 hc4
      go_wp2_with fail
      go_roundw
      case rel => exact ⟨A ++ [x], R, HL2.out, by simp, HB4.out, HC4.out⟩
      case measure => simp [intOf]; omega
end Go.Proofs.YtjloddlkleileaaGreatDoor
