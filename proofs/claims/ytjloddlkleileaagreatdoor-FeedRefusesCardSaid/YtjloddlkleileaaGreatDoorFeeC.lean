/-
  The program's item of a line.
-/
import Derived.Test.YtjloddlkleileaaGreatDoorFeeB
import Derived.Deep.DeepCutAuto
import Derived.Deep.RegionHeld
namespace Go.Proofs.YtjloddlkleileaaGreatDoor
open Go.RowKit Go.Shelf
set_option linter.unusedVariables false
set_option linter.unusedSimpArgs false

def ItemAt (l : List UInt8) (e : Ending) : Prop := ∃ (m : Bool) (t k v : Int) (b : Bool), e = .returned (.tuple #[.agg #[.bool m, .int .i64 t, .int .u8 k, .int .i64 v], .bool b]) ∧
  match itemL l with | some x => b = true ∧ m = x.mark ∧ t = x.time ∧ k = (x.kind.toNat : Int) ∧ v = x.val | none => b = false
theorem item_bad {l : List UInt8} {m b : Bool} {t k v : Int} (h : itemL l = none) (hb : b = false) : ItemAt l (.returned (.tuple #[.agg #[.bool m, .int .i64 t, .int .u8 k, .int .i64 v], .bool b])) := ⟨m, t, k, v, b, rfl, by rw [h]; exact hb⟩
theorem ba_lit (a : ByteArray) (c : UInt8) : (a.toList == [c]) = decide (a.data.toList = [c]) := by
  rw [ByteArray.toList_eq]
  by_cases h : a.data.toList = [c]
  · rw [h]; simp
  · rw [beq_eq_false_iff_ne.2 h]; simp [h]
theorem itemL_no {l : List UInt8} (h1 : ∀ t, spl 32 l ≠ [[77], t]) (h2 : ∀ t k v, spl 32 l ≠ [[69], t, [k], v]) : itemL l = none := by
  unfold itemL
  split
  · rename_i m t hs
    split
    · rename_i hm
      subst hm
      exact absurd hs (h1 t)
    · rfl
  · rename_i e t k v hs
    split
    · rename_i hm
      subst hm
      split
      · rename_i y
        exact absurd hs (h2 t y v)
      · rfl
    · rfl
  · rfl
theorem idx0 (c : ByteArray) (x : UInt8) (h : c.data.toList = [x]) (w : World) : (Instr.index 9 (.string c) (.int .i64 0)).run Tryz.prog w = .ok (.int .u8 (x.toNat : Int)) w := by
  obtain rfl : c = ⟨#[x]⟩ := ba_eq h
  rw [run_index_string w _ _ _ _ Tryz.underlying9, dif_pos ⟨by decide, show (0 : Int) < 1 by decide⟩]
  rfl
set_option maxRecDepth 100000 in
set_option maxHeartbeats 4000000 in
theorem fd_item (s : ByteArray) (hs : s.size ≤ 4294967280) (w : World) (ht : Tab w) (he : ErrOk w) (hm : MaxOk w) : Calls Tryz.prog 36 #[.string s] w fun e w' => ItemAt s.data.toList e ∧ Chg (fun _ => False) w w' := by
  obtain ⟨w1, hw1⟩ : ∃ w1, w1 = w.alloc (.cells #[.bool false, .int .i64 0, .int .u8 0, .int .i64 0] 56) := ⟨_, rfl⟩
  have hc1 : Chg (fun _ => False) w w1 := by rw [hw1]; ((repeat (first | exact Chg.refl _ _ | assumption | refine Chg.drewN ?_ _ | refine Chg.drew ?_ | refine Chg.alloc ?_ _ | refine Chg.setCell ?_ (by first | (simp; done) | (simp; omega) | (intro h; simp at h; omega)) _)))
  have hb1 : Blk w1 w.heap.size 56 #[.bool false, .int .i64 0, .int .u8 0, .int .i64 0] := by rw [hw1]; exact Blk.new _ _ _
  have hsp := str_split s w1 hs (hm.chg hc1)
  have hnum := fun (f : ByteArray) (hf : f.size ≤ 4294967280) W (hW : Chg (fun _ => False) w W) => fd_number f hf W (ht.chg hW) (he.chg hW)
  have HSP := Lib.hid hsp
  have HNUM := Lib.hid hnum
  have HW1 := Lib.hid hw1
  have HC1 := Lib.hid hc1
  have HB1 := Lib.hid hb1
  clear hsp hnum hw1 hc1 hb1 ht he hm
  go_enter Tryz.func36, Tryz.ntmps36
  go_upto_region 1 with fail
  rw [← HW1.out]
  go_wp2_with fail
  refine HSP.out.mono ?_
  rintro e w2 ⟨L, hL, hLz, rfl, hw2⟩
  have hc2 : Chg (fun _ => False) w1 w2 := by rw [hw2]; ((repeat (first | exact Chg.refl _ _ | assumption | refine Chg.drewN ?_ _ | refine Chg.drew ?_ | refine Chg.alloc ?_ _ | refine Chg.setCell ?_ (by first | (simp; done) | (simp; omega) | (intro h; simp at h; omega)) _)))
  have hbL : Blk w2 w1.heap.size 9 (L.map Value.string).toArray := by rw [hw2]; exact Blk.new _ _ _
  have hb2 := HB1.out.chg hc2 (by simp)
  have hcW := HC1.out.then hc2
  obtain ⟨a, R, rfl⟩ : ∃ a R, L = a :: R := by
    cases L with
    | nil => exact absurd hL.symm (spl_ne 32 _)
    | cons a R => exact ⟨a, R, rfl⟩
  obtain ⟨g, hg⟩ : ∃ g, w.heap.size = g := ⟨_, rfl⟩
  obtain ⟨gL, hgL⟩ : ∃ gL, w1.heap.size = gL := ⟨_, rfl⟩
  rw [hg] at hb2 ⊢
  rw [hgL] at hbL ⊢
  have a0 := hbL.cell 0
  simp at a0
  have hgl := hb2.lt
  have y0 := hb2.cell 0
  have y1 := hb2.cell 1
  have y2 := hb2.cell 2
  have y3 := hb2.cell 3
  have f0 := hb2.frozen 0
  have f1 := hb2.frozen 1
  have f2 := hb2.frozen 2
  have f3 := hb2.frozen 3
  simp at y0 y1 y2 y3
  have HBL := Lib.hid hbL
  have HB2 := Lib.hid hb2
  have HCW := Lib.hid hcW
  have HL := Lib.hid hL
  have HLZ := Lib.hid hLz
  obtain ⟨n, hn⟩ : ∃ n, (a :: R).length = n := ⟨_, rfl⟩
  rw [hn]
  have hn1 : 1 ≤ n := by rw [← hn]; simp
  have HN := Lib.hid hn
  clear hbL hb2 hcW hL hLz hw2 hc2 hn HSP HC1 HB1
  have hM := ba_lit a 77
  have hE := ba_lit a 69
  by_cases hA : a.data.toList = [77] ∧ n = 2
  · obtain ⟨hA1, rfl⟩ := hA
    have hq : ((2 : Int) == 2) = true := rfl
    obtain ⟨b, rfl⟩ : ∃ b, R = [b] := by
      have := HN.out
      match R, this with
      | [b], _ => exact ⟨b, rfl⟩
    rw [decide_eq_true hA1] at hM
    have a1 := HBL.out.cell 1
    simp at a1
    obtain ⟨w4, hw4⟩ : ∃ w4, w4 = w2.setCell ⟨g, 0, none⟩ (.bool true) := ⟨_, rfl⟩
    have hc4 : Chg (fun _ => False) w w4 := by rw [hw4]; have := HCW.out; ((repeat (first | exact Chg.refl _ _ | assumption | refine Chg.drewN ?_ _ | refine Chg.drew ?_ | refine Chg.alloc ?_ _ | refine Chg.setCell ?_ (by first | (simp; done) | (simp; omega) | (intro h; simp at h; omega)) _)))
    have hb4 : Blk w4 g 56 #[.bool true, .int .i64 0, .int .u8 0, .int .i64 0] := by rw [hw4]; simpa using HB2.out.set_ 0 (.bool true)
    have hnb := HNUM.out b (HLZ.out b (by simp)) w4 hc4
    have hit : itemL s.data.toList = (numV b.data.toList).map fun v => ⟨true, v, 0, 0⟩ := by
      have h1 := HL.out
      simp only [List.map_cons, List.map_nil, hA1] at h1
      obtain ⟨s', e1, h2, _⟩ := spl_two h1.symm
      obtain ⟨e2, _⟩ := spl_one h2
      rw [e1, e2]
      exact itemL_M _
    have HNB := Lib.hid hnb
    have HB4 := Lib.hid hb4
    have HC4 := Lib.hid hc4
    have HIT := Lib.hid hit
    have a1' : w4.cell? ⟨gL, 1, none⟩ = some (.string b) := by
      have hne : gL ≠ g := by
        have := HB2.out
        exact fun e => by rw [e] at HBL; exact HBL.out.ne_ HB2.out (by decide) rfl
      rw [hw4]
      rw [World.cell?_setCell_far _ _ _ _ (fun e => hne e.symm)]
      exact a1
    have HW4 := Lib.hid hw4
    have HG := Lib.hid hg
    clear hnb hb4 hc4 hit hw4 hA1 hE hg hgL
    go_upto_region 4 with fail
    rw [← HW4.out]
    clear y0 y1 y2 y3 f0 f1 f2 f3 a0 a1
    go_wp2_with fail
    refine HNB.out.mono ?_
    rintro e w5 ⟨⟨nn, bb, rfl, hnv⟩, hc5⟩
    have hb5 := HB4.out.chg hc5 (by simp)
    have y0 := hb5.cell 0
    have y1 := hb5.cell 1
    have y2 := hb5.cell 2
    have y3 := hb5.cell 3
    have f0 := hb5.frozen 0
    have f1 := hb5.frozen 1
    have f2 := hb5.frozen 2
    have f3 := hb5.frozen 3
    simp at y0 y1 y2 y3
    have HNV := Lib.hid hnv
    have HC5 := Lib.hid (HC4.out.then hc5)
    have HB5 := Lib.hid hb5
    clear hnv hc5 hb5
    go_wp2_with fail
    obtain ⟨w9, hw9⟩ : ∃ w9, w9 = (((((w5.setCell ⟨g, 1, none⟩ (.int .i64 nn)).setCell ⟨g, 0, none⟩ (.bool true)).setCell ⟨g, 1, none⟩ (.int .i64 nn)).setCell ⟨g, 2, none⟩ (.int .u8 0)).setCell ⟨g, 3, none⟩ (.int .i64 0)) := ⟨_, rfl⟩
    have hb9 : Blk w9 g 56 #[.bool true, .int .i64 nn, .int .u8 0, .int .i64 0] := by
      rw [hw9]
      simpa using ((((HB5.out.set_ 1 (.int .i64 nn)).set_ 0 (.bool true)).set_ 1 (.int .i64 nn)).set_ 2 (.int .u8 0)).set_ 3 (.int .i64 0)
    have hc9 : Chg (fun _ => False) w w9 := by rw [hw9]; have := HC5.out; have hg' := HG.out; ((repeat (first | with_reducible exact Chg.refl _ _ | with_reducible assumption | with_reducible refine Chg.drewN ?_ _ | with_reducible refine Chg.drew ?_ | with_reducible refine Chg.alloc ?_ _ | with_reducible refine Chg.setCell ?_ (by first | (simp; done) | (simp; omega) | (intro h; simp at h; omega)) _)))
    rw [← hw9]
    have z0 := hb9.cell 0
    have z1 := hb9.cell 1
    have z2 := hb9.cell 2
    have z3 := hb9.cell 3
    simp at z0 z1 z2 z3
    refine bodyPost_ret (v := .tuple #[.agg #[.bool true, .int .i64 nn, .int .u8 0, .int .i64 0], .bool bb]) (by simp [results, Tryz.results36, go_sem, z0, z1, z2, z3]) rfl ⟨⟨true, nn, 0, 0, bb, rfl, ?_⟩, hc9⟩
    rw [HIT.out]
    have h9 := HNV.out
    cases hn : numV b.data.toList with
    | none => rw [hn] at h9; exact h9
    | some v => rw [hn] at h9; exact ⟨h9.2, rfl, h9.1, rfl, rfl⟩
  · have HG := Lib.hid hg
    clear hg hgL
    by_cases hA1 : a.data.toList = [77]
    · have hn2 : n ≠ 2 := fun e => hA ⟨hA1, e⟩
      have hE1 : a.data.toList ≠ [69] := by rw [hA1]; decide
      have hbad : itemL s.data.toList = none := itemL_no (fun t h => by
          rw [← HL.out] at h
          have := congrArg List.length h
          rw [List.length_map, HN.out] at this
          exact hn2 this) (fun t k v h => by
          rw [← HL.out] at h
          injection h with h _
          exact hE1 h)
      rw [decide_eq_true hA1] at hM
      rw [decide_eq_false hE1] at hE
      have q2 : ((n : Int) == 2) = false := by rw [beq_eq_false_iff_ne]; omega
      have HBAD := Lib.hid hbad
      clear hA hA1 hn2 hE1 hbad
      go_wp2_with fail
      obtain ⟨w9, hw9⟩ : ∃ w9, w9 = ((((w2.setCell ⟨g, 0, none⟩ (.bool false)).setCell ⟨g, 1, none⟩ (.int .i64 0)).setCell ⟨g, 2, none⟩ (.int .u8 0)).setCell ⟨g, 3, none⟩ (.int .i64 0)) := ⟨_, rfl⟩
      have hb9 : Blk w9 g 56 #[.bool false, .int .i64 0, .int .u8 0, .int .i64 0] := by
        rw [hw9]
        simpa using (((HB2.out.set_ 0 (.bool false)).set_ 1 (.int .i64 0)).set_ 2 (.int .u8 0)).set_ 3 (.int .i64 0)
      have hc9 : Chg (fun _ => False) w w9 := by rw [hw9]; have := HCW.out; have hg' := HG.out; ((repeat (first | with_reducible exact Chg.refl _ _ | with_reducible assumption | with_reducible refine Chg.drewN ?_ _ | with_reducible refine Chg.drew ?_ | with_reducible refine Chg.alloc ?_ _ | with_reducible refine Chg.setCell ?_ (by first | (simp; done) | (simp; omega) | (intro h; simp at h; omega)) _)))
      rw [← hw9]
      have z0 := hb9.cell 0
      have z1 := hb9.cell 1
      have z2 := hb9.cell 2
      have z3 := hb9.cell 3
      simp at z0 z1 z2 z3
      exact bodyPost_ret (v := .tuple #[.agg #[.bool false, .int .i64 0, .int .u8 0, .int .i64 0], .bool false]) (by simp [results, Tryz.results36, go_sem, z0, z1, z2, z3]) rfl ⟨item_bad HBAD.out rfl, hc9⟩
    · rw [decide_eq_false hA1] at hM
      by_cases hE1 : a.data.toList = [69]
      · rw [decide_eq_true hE1] at hE
        by_cases h4 : n = 4
        · subst h4
          obtain ⟨b, c, d, rfl⟩ : ∃ b c d, R = [b, c, d] := by
            have := HN.out
            match R, this with
            | [b, c, d], _ => exact ⟨b, c, d, rfl⟩
          have a1 := HBL.out.cell 1
          have a2 := HBL.out.cell 2
          have a3 := HBL.out.cell 3
          simp at a1 a2 a3
          have q4 : ((4 : Int) == 4) = true := rfl
          by_cases hc1 : c.size = 1
          · obtain ⟨x, hx⟩ : ∃ x, c.data.toList = [x] := by
              have : c.data.toList.length = 1 := by rw [Array.length_toList]; exact hc1
              match hl : c.data.toList, this with
              | [x], _ => exact ⟨x, rfl⟩
            have hit : itemL s.data.toList = match numV b.data.toList, numV d.data.toList with | some t, some v => some ⟨false, t, x, v⟩ | _, _ => none := by
              have h1 := HL.out
              simp only [List.map_cons, List.map_nil, hE1, hx] at h1
              obtain ⟨s1, e1, h1, _⟩ := spl_two h1.symm
              obtain ⟨s2, e2, h2, n2⟩ := spl_two h1
              obtain ⟨s3, e3, h3, n3⟩ := spl_two h2
              obtain ⟨e4, _⟩ := spl_one h3
              rw [e1, e2, e3, e4]
              have h9 := itemL_E b.data.toList d.data.toList x n2 (fun e => n3 (by simp [e]))
              exact h9.trans (by cases numV b.data.toList <;> cases numV d.data.toList <;> rfl)
            have hix := fun w => idx0 c x hx w
            have hnb := HNUM.out b (HLZ.out b (by simp)) w2 HCW.out
            have hnd := fun W hW => HNUM.out d (HLZ.out d (by simp)) W hW
            have q5 : ((c.size : Int) == 1) = true := by rw [hc1]; rfl
            have HIT := Lib.hid hit
            have HNB := Lib.hid hnb
            have HND := Lib.hid hnd
            have HX := Lib.hid hx
            clear hit hnb hnd hx hc1 hE1 hA1 hA
            go_wp2_with fail
            refine HNB.out.mono ?_
            rintro e w5 ⟨⟨nn, bb, rfl, hnv⟩, hc5⟩
            have hbL5 := HBL.out.chg hc5 (by simp)
            have a2 := hbL5.cell 2
            have a3 := hbL5.cell 3
            simp at a2 a3
            have HNV := Lib.hid hnv
            have HC5 := Lib.hid (HCW.out.then hc5)
            have HBL5 := Lib.hid hbL5
            have HB5 := Lib.hid (HB2.out.chg hc5 (by simp))
            clear hnv hc5 hbL5
            go_wp2_with fail
            refine (HND.out w5 HC5.out).mono ?_
            rintro e w6 ⟨⟨mm, bd, rfl, hmv⟩, hc6⟩
            have hb6 := HB5.out.chg hc6 (by simp)
            have a2 := (HBL5.out.chg hc6 (by simp)).cell 2
            simp at a2
            have y0 := hb6.cell 0
            have y1 := hb6.cell 1
            have y2 := hb6.cell 2
            have y3 := hb6.cell 3
            have f0 := hb6.frozen 0
            have f1 := hb6.frozen 1
            have f2 := hb6.frozen 2
            have f3 := hb6.frozen 3
            simp at y0 y1 y2 y3
            have HMV := Lib.hid hmv
            have HC6 := Lib.hid (HC5.out.then hc6)
            have HB6 := Lib.hid hb6
            clear hmv hc6 hb6
            cases bb
            all_goals
              go_wp2_with fail
              obtain ⟨w9, hw9⟩ : ∃ w9, w9 = ((((w6.setCell ⟨g, 0, none⟩ (.bool false)).setCell ⟨g, 1, none⟩ (.int .i64 nn)).setCell ⟨g, 2, none⟩ (.int .u8 (x.toNat : Int))).setCell ⟨g, 3, none⟩ (.int .i64 mm)) := ⟨_, rfl⟩
              have hb9 : Blk w9 g 56 #[.bool false, .int .i64 nn, .int .u8 (x.toNat : Int), .int .i64 mm] := by
                rw [hw9]
                simpa using (((HB6.out.set_ 0 (.bool false)).set_ 1 (.int .i64 nn)).set_ 2 (.int .u8 (x.toNat : Int))).set_ 3 (.int .i64 mm)
              have hc9 : Chg (fun _ => False) w w9 := by rw [hw9]; have := HC6.out; have hg' := HG.out; ((repeat (first | with_reducible exact Chg.refl _ _ | with_reducible assumption | with_reducible refine Chg.drewN ?_ _ | with_reducible refine Chg.drew ?_ | with_reducible refine Chg.alloc ?_ _ | with_reducible refine Chg.setCell ?_ (by first | (simp; done) | (simp; omega) | (intro h; simp at h; omega)) _)))
              rw [← hw9]
              have z0 := hb9.cell 0
              have z1 := hb9.cell 1
              have z2 := hb9.cell 2
              have z3 := hb9.cell 3
              simp at z0 z1 z2 z3
            · refine bodyPost_ret (v := .tuple #[.agg #[.bool false, .int .i64 nn, .int .u8 (x.toNat : Int), .int .i64 mm], .bool false]) (by simp [results, Tryz.results36, go_sem, z0, z1, z2, z3]) rfl ⟨⟨false, nn, _, mm, false, rfl, ?_⟩, hc9⟩
              rw [HIT.out]
              have h8 := HNV.out
              cases hn : numV b.data.toList with
              | none => rfl
              | some t => rw [hn] at h8; exact absurd h8.2 (by decide)
            · refine bodyPost_ret (v := .tuple #[.agg #[.bool false, .int .i64 nn, .int .u8 (x.toNat : Int), .int .i64 mm], .bool bd]) (by simp [results, Tryz.results36, go_sem, z0, z1, z2, z3]) rfl ⟨⟨false, nn, _, mm, bd, rfl, ?_⟩, hc9⟩
              rw [HIT.out]
              have h8 := HNV.out
              have h9 := HMV.out
              cases hn : numV b.data.toList with
              | none => rw [hn] at h8; exact absurd (show true = false from h8) (by decide)
              | some t =>
                rw [hn] at h8
                cases hd : numV d.data.toList with
                | none => rw [hd] at h9; exact h9
                | some v => rw [hd] at h9; exact ⟨h9.2, rfl, h8.1, rfl, h9.1⟩
          · have hbad : itemL s.data.toList = none := itemL_no (fun t h => by
                rw [← HL.out] at h
                simp at h) (fun t k v h => by
                rw [← HL.out] at h
                simp only [List.map_cons, List.map_nil] at h
                injection h with _ h
                injection h with _ h
                injection h with h _
                have := congrArg List.length h
                rw [Array.length_toList] at this
                exact hc1 this)
            have q5 : ((c.size : Int) == 1) = false := by rw [beq_eq_false_iff_ne]; omega
            have HBAD := Lib.hid hbad
            clear hA hA1 hE1 hc1 hbad
            go_wp2_with fail
            obtain ⟨w9, hw9⟩ : ∃ w9, w9 = ((((w2.setCell ⟨g, 0, none⟩ (.bool false)).setCell ⟨g, 1, none⟩ (.int .i64 0)).setCell ⟨g, 2, none⟩ (.int .u8 0)).setCell ⟨g, 3, none⟩ (.int .i64 0)) := ⟨_, rfl⟩
            have hb9 : Blk w9 g 56 #[.bool false, .int .i64 0, .int .u8 0, .int .i64 0] := by
              rw [hw9]
              simpa using (((HB2.out.set_ 0 (.bool false)).set_ 1 (.int .i64 0)).set_ 2 (.int .u8 0)).set_ 3 (.int .i64 0)
            have hc9 : Chg (fun _ => False) w w9 := by rw [hw9]; have := HCW.out; have hg' := HG.out; ((repeat (first | with_reducible exact Chg.refl _ _ | with_reducible assumption | with_reducible refine Chg.drewN ?_ _ | with_reducible refine Chg.drew ?_ | with_reducible refine Chg.alloc ?_ _ | with_reducible refine Chg.setCell ?_ (by first | (simp; done) | (simp; omega) | (intro h; simp at h; omega)) _)))
            rw [← hw9]
            have z0 := hb9.cell 0
            have z1 := hb9.cell 1
            have z2 := hb9.cell 2
            have z3 := hb9.cell 3
            simp at z0 z1 z2 z3
            exact bodyPost_ret (v := .tuple #[.agg #[.bool false, .int .i64 0, .int .u8 0, .int .i64 0], .bool false]) (by simp [results, Tryz.results36, go_sem, z0, z1, z2, z3]) rfl ⟨item_bad HBAD.out rfl, hc9⟩
        · have hbad : itemL s.data.toList = none := itemL_no (fun t h => by
              rw [← HL.out] at h
              injection h with h _
              exact hA1 h) (fun t k v h => by
              rw [← HL.out] at h
              have := congrArg List.length h
              rw [List.length_map, HN.out] at this
              exact h4 this)
          have q4 : ((n : Int) == 4) = false := by rw [beq_eq_false_iff_ne]; omega
          have q4' : ((n : Int) != 4) = true := by simp [bne, q4]
          have q4'' : ¬ ((n : Int) = 4) := by omega
          have HBAD := Lib.hid hbad
          clear hA hA1 hE1 h4 hbad
          go_wp2_with fail
          obtain ⟨w9, hw9⟩ : ∃ w9, w9 = ((((w2.setCell ⟨g, 0, none⟩ (.bool false)).setCell ⟨g, 1, none⟩ (.int .i64 0)).setCell ⟨g, 2, none⟩ (.int .u8 0)).setCell ⟨g, 3, none⟩ (.int .i64 0)) := ⟨_, rfl⟩
          have hb9 : Blk w9 g 56 #[.bool false, .int .i64 0, .int .u8 0, .int .i64 0] := by
            rw [hw9]
            simpa using (((HB2.out.set_ 0 (.bool false)).set_ 1 (.int .i64 0)).set_ 2 (.int .u8 0)).set_ 3 (.int .i64 0)
          have hc9 : Chg (fun _ => False) w w9 := by rw [hw9]; have := HCW.out; have hg' := HG.out; ((repeat (first | with_reducible exact Chg.refl _ _ | with_reducible assumption | with_reducible refine Chg.drewN ?_ _ | with_reducible refine Chg.drew ?_ | with_reducible refine Chg.alloc ?_ _ | with_reducible refine Chg.setCell ?_ (by first | (simp; done) | (simp; omega) | (intro h; simp at h; omega)) _)))
          rw [← hw9]
          have z0 := hb9.cell 0
          have z1 := hb9.cell 1
          have z2 := hb9.cell 2
          have z3 := hb9.cell 3
          simp at z0 z1 z2 z3
          exact bodyPost_ret (v := .tuple #[.agg #[.bool false, .int .i64 0, .int .u8 0, .int .i64 0], .bool false]) (by simp [results, Tryz.results36, go_sem, z0, z1, z2, z3]) rfl ⟨item_bad HBAD.out rfl, hc9⟩
      · have hbad : itemL s.data.toList = none := itemL_no (fun t h => by
            rw [← HL.out] at h
            injection h with h _
            exact hA1 h) (fun t k v h => by
            rw [← HL.out] at h
            injection h with h _
            exact hE1 h)
        rw [decide_eq_false hE1] at hE
        have HBAD := Lib.hid hbad
        clear hA hA1 hE1 hbad
        go_wp2_with fail
        obtain ⟨w9, hw9⟩ : ∃ w9, w9 = ((((w2.setCell ⟨g, 0, none⟩ (.bool false)).setCell ⟨g, 1, none⟩ (.int .i64 0)).setCell ⟨g, 2, none⟩ (.int .u8 0)).setCell ⟨g, 3, none⟩ (.int .i64 0)) := ⟨_, rfl⟩
        have hb9 : Blk w9 g 56 #[.bool false, .int .i64 0, .int .u8 0, .int .i64 0] := by
          rw [hw9]
          simpa using (((HB2.out.set_ 0 (.bool false)).set_ 1 (.int .i64 0)).set_ 2 (.int .u8 0)).set_ 3 (.int .i64 0)
        have hc9 : Chg (fun _ => False) w w9 := by rw [hw9]; have := HCW.out; have hg' := HG.out; ((repeat (first | with_reducible exact Chg.refl _ _ | with_reducible assumption | with_reducible refine Chg.drewN ?_ _ | with_reducible refine Chg.drew ?_ | with_reducible refine Chg.alloc ?_ _ | with_reducible refine Chg.setCell ?_ (by first | (simp; done) | (simp; omega) | (intro h; simp at h; omega)) _)))
        rw [← hw9]
        have z0 := hb9.cell 0
        have z1 := hb9.cell 1
        have z2 := hb9.cell 2
        have z3 := hb9.cell 3
        simp at z0 z1 z2 z3
        exact bodyPost_ret (v := .tuple #[.agg #[.bool false, .int .i64 0, .int .u8 0, .int .i64 0], .bool false]) (by simp [results, Tryz.results36, go_sem, z0, z1, z2, z3]) rfl ⟨item_bad HBAD.out rfl, hc9⟩
end Go.Proofs.YtjloddlkleileaaGreatDoor
