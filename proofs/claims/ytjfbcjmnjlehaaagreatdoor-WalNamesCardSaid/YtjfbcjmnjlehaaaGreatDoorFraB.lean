/-
  The program's frame: Put.
-/
import Derived.Test.YtjfbcjmnjlehaaaGreatDoorFraA
import Derived.Test.YtjfbcjmnjlehaaaGreatDoorDiskN
import Derived.Deep.DeepCutAuto
import Derived.Outline
namespace Go.Proofs.YtjfbcjmnjlehaaaGreatDoor
open Go.RowKit
set_option linter.unusedVariables false
set_option linter.unusedSimpArgs false

theorem run_arr_string {w : World} {g : Nat} {T : TypeId} (hd : ByteArray) (h8 : hd.size = 8) (h : Blk w g T (byteCells hd).toArray) : (convert 60 9 (.slice (some ⟨g, 0, none⟩) 8 8)).run Tryz.prog w = .ok (.string hd) w := by
  rw [run_convert_bytes_string w 60 9 5 _ 8 8 Tryz.underlying60 Tryz.underlying5 Tryz.underlying9]
  have hn : (byteCells hd).length = 8 * 1 := by rw [byteCells_length, h8]
  have hcells : ∀ j u, (byteCells hd)[j]? = some u → w.cell? ((⟨g, 0, none⟩ : Addr).add j) = some u := fun j u hu => by
    have e : (⟨g, 0, none⟩ : Addr).add j = ⟨g, j, none⟩ := by rw [Addr.add_lit]; simp
    rw [e, h.cell j]
    simpa using hu
  have hl : (loadCells ⟨g, 0, none⟩ (8 * 1)).run Tryz.prog w = .ok (byteCells hd).toArray w := run_firstCells_some w 1 8 ⟨g, 0, none⟩ 8 8 (byteCells hd) hn hcells
  rw [Nat.mul_one] at hl
  have hb : byteCells hd = (hd.data.toList.map fun b => (b.toNat : Int)).map (Value.int .u8) := by unfold byteCells; rw [List.map_map]; rfl
  rw [hb] at hl
  rw [run_bytesToString w ⟨g, 0, none⟩ 8 8 _ hl, fold_push]
  simp
theorem not8 (d : Nat) (h : d < 256) : bits .xor .u8 IntKind.u8.max (d : Int) = ((255 - d : Nat) : Int) := by
  have e : ∀ d : Fin 256, 255 ^^^ d.val = 255 - d.val := by decide +kernel
  have := u8_xor_nat 255 d (by omega) h
  rw [e ⟨d, h⟩, show (((255 : Nat) : Int)) = IntKind.u8.max from rfl] at this
  exact this
def fraCells (n c k : Nat) : Array Value := #[.int .u8 ((n : Int) / 256), .int .u8 ((n : Int) % 256), .int .u8 ((255 - n / 256 : Nat) : Int), .int .u8 ((255 - n % 256 : Nat) : Int),
  if 0 < k then .int .u8 ((c : Int) / 16777216) else .int .u8 0, if 1 < k then .int .u8 ((c : Int) / 65536 % 256) else .int .u8 0, if 2 < k then .int .u8 ((c : Int) / 256 % 256) else .int .u8 0, if 3 < k then .int .u8 ((c : Int) % 256) else .int .u8 0]
theorem fraCells_all (n c : Nat) (hn : n ≤ 65535) (hc : c < 4294967296) : fraCells n c 4 = (byteCells ⟨(fraHead n c).toArray⟩).toArray := by
  have key : ∀ m : Nat, m < 256 → ∀ z : Int, z = (m : Int) → Value.int .u8 z = .int .u8 ((u8 m).toNat : Int) := fun m hm z hz => by rw [u8_nat hm, hz]
  simp only [fraCells, byteCells, fraHead, List.map_cons, List.map_nil]
  rw [if_pos (by omega), if_pos (by omega), if_pos (by omega), if_pos (by omega)]
  rw [← key (n / 256) (by omega) _ rfl, ← key (n % 256) (by omega) _ rfl, ← key (255 - n / 256) (by omega) _ rfl, ← key (255 - n % 256) (by omega) _ rfl, ← key (c / 16777216) (by omega) _ rfl, ← key (c / 65536 % 256) (by omega) _ rfl, ← key (c / 256 % 256) (by omega) _ rfl, ← key (c % 256) (by omega) _ rfl]
  simp
set_option maxRecDepth 100000 in
set_option maxHeartbeats 2000000 in
theorem fra_put_no (s : ByteArray) (w : World) (hs : s.size ≤ 1000000000) (h : 65535 < s.size) : Calls Tryz.prog 36 #[.string s] w fun e w' => e = .returned (.tuple #[.string ⟨#[]⟩, .int .i64 5]) ∧ w = w' := by
  go_enter Tryz.func36, Tryz.ntmps36
  go_wp2_with fail
  go_ret2
  exact ⟨rfl, rfl⟩
set_option maxRecDepth 100000 in
set_option maxHeartbeats 2000000 in
theorem fra_put (s : ByteArray) (w : World) (h : s.size ≤ 65535) : Calls Tryz.prog 36 #[.string s] w fun e w' => (∃ t : ByteArray, t.data.toList = fraB s.data.toList ∧ e = .returned (.tuple #[.string t, .int .i64 0])) ∧ Chg (fun _ => False) w w' := by
  have hcl := crcSum_lt s.data.toList
  obtain ⟨c, hc⟩ : ∃ c, crcSum s.data.toList = c := ⟨_, rfl⟩
  have hsum := fra_sum s w (by omega)
  rw [hc] at hsum hcl
  have HS := Lib.hid hsum
  have HC := Lib.hid hc
  clear hsum hc
  go_enter Tryz.func36, Tryz.ntmps36
  go_wp2_with fail
  refine HS.out.mono ?_
  rintro e w' ⟨rfl, rfl⟩
  have hx1 : bits .xor .u8 (if IntKind.u8.signed = true then -1 else IntKind.u8.max) ((s.size : Int) / 256) = ((255 - s.size / 256 : Nat) : Int) := by
    rw [if_neg (by decide), show (s.size : Int) / 256 = ((s.size / 256 : Nat) : Int) by omega]
    exact not8 _ (by omega)
  have hx2 : bits .xor .u8 (if IntKind.u8.signed = true then -1 else IntKind.u8.max) ((s.size : Int) % 256) = ((255 - s.size % 256 : Nat) : Int) := by
    rw [if_neg (by decide), show (s.size : Int) % 256 = ((s.size % 256 : Nat) : Int) by omega]
    exact not8 _ (by omega)
  obtain ⟨w1, hw1⟩ : ∃ w1, w1 = w.alloc (.cells #[.int .u8 ((s.size : Int) / 256), .int .u8 ((s.size : Int) % 256), .int .u8 ((255 - s.size / 256 : Nat) : Int), .int .u8 ((255 - s.size % 256 : Nat) : Int), .int .u8 0, .int .u8 0, .int .u8 0, .int .u8 0] 145) := ⟨_, rfl⟩
  have hc1 : Chg (fun _ => False) w w1 := by rw [hw1]; ((repeat (first | exact Chg.refl _ _ | assumption | refine Chg.drewN ?_ _ | refine Chg.drew ?_ | refine Chg.alloc ?_ _ | refine Chg.setCell ?_ (by first | (simp; done) | (simp; omega) | (intro h; simp at h; omega)) _)))
  have hb1 : Blk w1 w.heap.size 145 (fraCells s.size c 0) := by rw [hw1]; exact Blk.new w _ _
  have HW1 := Lib.hid hw1
  have HC1 := Lib.hid hc1
  have HB1 := Lib.hid hb1
  clear hw1 hc1 hb1
  go_upto_region 5 with fail
  rw [← HW1.out]
  clear hx1 hx2
  go_wp2_with fail
  go_loopw [29] (fun i wr => ∃ k : Nat, k ≤ 4 ∧ i = .int .i64 k ∧ Blk wr w.heap.size 145 (fraCells s.size c k) ∧ Chg (fun j => j = w.heap.size) w1 wr) (fun i _ => 4 - (intOf i).toNat)
  case atStart => exact ⟨0, by omega, rfl, HB1.out, Chg.refl _ _⟩
  case round =>
    obtain ⟨k, hk, rfl, hB, hcr⟩ := hrel
    by_cases hlt : k < 4
    · have hcase : k = 0 ∨ k = 1 ∨ k = 2 ∨ k = 3 := by omega
      have hfr := fun i => hB.frozen i
      have hf4 := hfr 4
      have hf5 := hfr 5
      have hf6 := hfr 6
      have hf7 := hfr 7
      have hj4 := hB.cell 4
      have hj5 := hB.cell 5
      have hj6 := hB.cell 6
      have hj7 := hB.cell 7
      have hk0 : (0 : Int) ≤ (k : Int) := by omega
      have hB' := hB.set_ (4 + k) (.int .u8 (if k = 0 then (c : Int) / 16777216 else if k = 1 then (c : Int) / 65536 % 256 else if k = 2 then (c : Int) / 256 % 256 else (c : Int) % 256))
      have hbn : (fraCells s.size c k).setIfInBounds (4 + k) (.int .u8 (if k = 0 then (c : Int) / 16777216 else if k = 1 then (c : Int) / 65536 % 256 else if k = 2 then (c : Int) / 256 % 256 else (c : Int) % 256)) = fraCells s.size c (k + 1) := by
        rcases hcase with rfl | rfl | rfl | rfl <;> simp [fraCells]
      rw [hbn] at hB'
      have HB' := Lib.hid hB'
      have HCR := Lib.hid hcr
      clear hB' hbn hfr hB hcr
      simp only [fraCells] at hj4 hj5 hj6 hj7
      rcases hcase with rfl | rfl | rfl | rfl
      all_goals
        simp at hj4 hj5 hj6 hj7
        go_wp2_with fail
      · exact ⟨⟨1, by omega, rfl, by simpa using HB'.out, by have := HCR.out; ((repeat (first | exact Chg.refl _ _ | assumption | refine Chg.drewN ?_ _ | refine Chg.drew ?_ | refine Chg.alloc ?_ _ | refine Chg.setCell ?_ (by first | (simp; done) | (simp; omega) | (intro h; simp at h; omega)) _)))⟩, by simp [intOf]⟩
      · exact ⟨⟨2, by omega, rfl, by simpa using HB'.out, by have := HCR.out; ((repeat (first | exact Chg.refl _ _ | assumption | refine Chg.drewN ?_ _ | refine Chg.drew ?_ | refine Chg.alloc ?_ _ | refine Chg.setCell ?_ (by first | (simp; done) | (simp; omega) | (intro h; simp at h; omega)) _)))⟩, by simp [intOf]⟩
      · exact ⟨⟨3, by omega, rfl, by simpa using HB'.out, by have := HCR.out; ((repeat (first | exact Chg.refl _ _ | assumption | refine Chg.drewN ?_ _ | refine Chg.drew ?_ | refine Chg.alloc ?_ _ | refine Chg.setCell ?_ (by first | (simp; done) | (simp; omega) | (intro h; simp at h; omega)) _)))⟩, by simp [intOf]⟩
      · exact ⟨⟨4, by omega, rfl, by simpa using HB'.out, by have := HCR.out; ((repeat (first | exact Chg.refl _ _ | assumption | refine Chg.drewN ?_ _ | refine Chg.drew ?_ | refine Chg.alloc ?_ _ | refine Chg.setCell ?_ (by first | (simp; done) | (simp; omega) | (intro h; simp at h; omega)) _)))⟩, by simp [intOf]⟩
    · obtain rfl : k = 4 := by omega
      have hfr := fun i => hB.frozen i
      have hsz : (⟨(fraHead s.size c).toArray⟩ : ByteArray).size = 8 := rfl
      rw [fraCells_all s.size c h hcl] at hB
      have hcv := run_arr_string ⟨(fraHead s.size c).toArray⟩ hsz hB
      obtain ⟨hd, hhd⟩ : ∃ hd : ByteArray, (⟨(fraHead s.size c).toArray⟩ : ByteArray) = hd := ⟨_, rfl⟩
      rw [hhd] at hcv
      have hds : hd.size ≤ 8 := by rw [← hhd]; exact Nat.le_refl 8
      have HHD := Lib.hid hhd
      have HCR := Lib.hid (HC1.out.own hcr (Nat.le_refl _))
      clear hsz hhd hB hcr
      go_wp2_with fail
      go_ret2
      refine ⟨⟨hd ++ s, ?_, rfl⟩, HCR.out⟩
      rw [← HHD.out]
      unfold fraB
      rw [HC.out]
      simp
end Go.Proofs.YtjfbcjmnjlehaaaGreatDoor
