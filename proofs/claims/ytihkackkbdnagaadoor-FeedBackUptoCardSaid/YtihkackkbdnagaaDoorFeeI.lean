/-
  The document's item of a line.
-/
import Derived.Test.YtihkackkbdnagaaDoorFeeC
import Derived.Test.YtihkackkbdnagaaDoorFeeF
namespace Go.Proofs.YtihkackkbdnagaaDoor
open Go.RowKit Go.Shelf
set_option linter.unusedVariables false
set_option linter.unusedSimpArgs false

theorem first_eq : ∀ {t t' x x' : List UInt8}, t ++ 32 :: x = t' ++ 32 :: x' → (32 : UInt8) ∉ t → (32 : UInt8) ∉ t' → t = t' ∧ x = x'
  | [], [], x, x', h, _, _ => by simp at h; exact ⟨rfl, h⟩
  | [], b :: t', x, x', h, _, h2 => by
    simp at h
    exact absurd (by simp [h.1]) h2
  | a :: t, [], x, x', h, h1, _ => by
    simp at h
    exact absurd (by simp [h.1]) h1
  | a :: t, b :: t', x, x', h, h1, h2 => by
    simp only [List.cons_append, List.cons.injEq] at h
    simp only [List.mem_cons, not_or] at h1 h2
    obtain ⟨e1, e2⟩ := first_eq h.2 h1.2 h2.2
    exact ⟨by rw [h.1, e1], e2⟩
theorem ba_two (a : ByteArray) (c d : UInt8) : (a.toList == [c, d]) = decide (a.data.toList = [c, d]) := by
  rw [ByteArray.toList_eq]
  by_cases h : a.data.toList = [c, d]
  · rw [h]; simp
  · rw [beq_eq_false_iff_ne.2 h]; simp [h]
theorem run_atL (s : ByteArray) (i : Nat) (x : UInt8) (h : s.data.toList[i]? = some x) (w : World) : (Instr.index 9 (.string s) (.int .i64 (i : Int))).run Tryd.prog w = .ok (.int .u8 (x.toNat : Int)) w := by
  have hi : i < s.size := by
    obtain ⟨h1, _⟩ := List.getElem?_eq_some_iff.1 h
    rw [Array.length_toList] at h1
    exact h1
  have hx : s[i] = x := by
    obtain ⟨h1, h2⟩ := List.getElem?_eq_some_iff.1 h
    rw [← h2, Array.getElem_toList]
    rfl
  have := run_at s i hi w
  rw [hx] at this
  exact this
theorem ext_data (s : ByteArray) (a b : Nat) : (s.extract a b).data.toList = (s.data.toList.take b).drop a := by
  rw [ByteArray.data_extract, Array.toList_extract]
  simp [List.extract_eq_take_drop, List.take_drop]
  by_cases h : a ≤ b
  · rw [Nat.add_sub_cancel' h]
  · rw [List.drop_eq_nil_of_le (by simp; omega), List.drop_eq_nil_of_le (by simp; omega)]
set_option maxRecDepth 100000 in
set_option maxHeartbeats 4000000 in
theorem r3_item (s : ByteArray) (hs : s.size ≤ 4294967280) (w : World) : Calls Tryd.prog 13 #[.string s] w fun e w' => ItemAt s.data.toList e ∧ Chg (fun _ => False) w w' := by
  have e4 : s.data.toList.length = s.size := by rw [Array.length_toList]; rfl
  obtain ⟨g, hg⟩ : ∃ g, w.heap.size = g := ⟨_, rfl⟩
  obtain ⟨wn, hwn⟩ : ∃ wn, wn = (w.alloc (.cells #[.bool false, .int .i64 0, .int .u8 0, .int .i64 0] 36)).alloc (.cells #[.bool false, .int .i64 0, .int .u8 0, .int .i64 0] 36) := ⟨_, rfl⟩
  have hbn : Blk wn g 36 #[.bool false, .int .i64 0, .int .u8 0, .int .i64 0] := by rw [hwn, ← hg]; exact (Blk.new _ _ _).alloc _
  have hbo : Blk wn (g + 1) 36 #[.bool false, .int .i64 0, .int .u8 0, .int .i64 0] := by rw [hwn, ← hg]; exact Blk.new1 _ _ _ _
  have hcn : Chg (fun _ => False) w wn := by rw [hwn]; ((repeat (first | exact Chg.refl _ _ | assumption | refine Chg.drewN ?_ _ | refine Chg.drew ?_ | refine Chg.alloc ?_ _ | refine Chg.setCell ?_ (by first | (simp; done) | (simp; omega) | (intro h; simp at h; omega)) _)))
  have HWN := Lib.hid hwn
  have HBN := Lib.hid hbn
  have HBO := Lib.hid hbo
  have HCN := Lib.hid hcn
  have HG := Lib.hid hg
  clear hwn hbn hbo hcn
  have hdig := fun (f : ByteArray) (hf : f.size ≤ 4294967280) W => r3_digits f hf W
  have HDIG := Lib.hid hdig
  have HS := Lib.hid hs
  clear hdig hs
  obtain ⟨l, hl⟩ : ∃ l, s.data.toList = l := ⟨_, rfl⟩
  rw [hl] at e4 ⊢
  have ways : (∃ t, t ≠ [] ∧ l = 77 :: 32 :: t) ∨ (∃ r, l = 69 :: 32 :: r ∧ r ≠ []) ∨ (l.length ≤ 2) ∨ (3 ≤ l.length ∧ l.take 2 ≠ [77, 32] ∧ l.take 2 ≠ [69, 32]) := by
    match l with
    | [] => exact .inr (.inr (.inl (by simp)))
    | [a] => exact .inr (.inr (.inl (by simp)))
    | [a, b] => exact .inr (.inr (.inl (by simp)))
    | a :: b :: c :: r =>
      by_cases h1 : a = 77 ∧ b = 32
      · exact .inl ⟨c :: r, by simp, by rw [h1.1, h1.2]⟩
      · by_cases h2 : a = 69 ∧ b = 32
        · exact .inr (.inl ⟨c :: r, by rw [h2.1, h2.2], by simp⟩)
        · exact .inr (.inr (.inr ⟨by simp, by simpa using h1, by simpa using h2⟩))
  obtain ⟨p, hp⟩ : ∃ p, s.extract 0 2 = p := ⟨_, rfl⟩
  have hpl : p.data.toList = l.take 2 := by rw [← hp, ext_data, hl]; rfl
  have hM := ba_two p 77 32
  have hE := ba_two p 69 32
  rw [hpl] at hM hE
  have HPL := Lib.hid hpl
  have HL := Lib.hid hl
  have HE4 := Lib.hid e4
  clear hpl hl
  rcases ways with ⟨t, ht, rfl⟩ | ⟨r, rfl, hr⟩ | hsm | ⟨h3, h4, h5⟩
  · -- a mark
    rw [decide_eq_true (by rfl)] at hM
    have hsz : 2 < s.size := by rw [← e4]; cases t with | nil => exact absurd rfl ht | cons a t => simp
    have hd1 : decide ((s.size : Int) > 2) = true := by simp <;> omega
    obtain ⟨T, hT⟩ : ∃ T, s.extract 2 s.size = T := ⟨_, rfl⟩
    have hTl : T.data.toList = t := by
      rw [← hT, ext_data, HL.out, List.take_of_length_le (by rw [e4]; exact Nat.le_refl _)]
      rfl
    have hTs : T.size ≤ 4294967280 := by rw [← hT]; have := HS.out; simp; omega
    have HTL := Lib.hid hTl
    clear hE e4 hTl
    have hd := HDIG.out T hTs wn
    have HD := Lib.hid hd
    clear hd
    go_enter Tryd.func13, Tryd.ntmps13
    go_upto_region 2 with fail
    rw [← HWN.out]
    go_wp2_with fail
    refine HD.out.mono ?_
    rintro e w2 ⟨⟨n, b, rfl, hn⟩, hc2⟩
    have HB2 := Lib.hid (HBN.out.chg hc2 (by simp))
    have HC2 := Lib.hid (HCN.out.then hc2)
    have HN := Lib.hid hn
    clear hc2 hn HBN HCN
    have HBN := HB2
    have HCN := HC2
    have hgl := HBN.out.lt
    have y0 := HBN.out.cell 0
    have y1 := HBN.out.cell 1
    have y2 := HBN.out.cell 2
    have y3 := HBN.out.cell 3
    have f0 := HBN.out.frozen 0
    have f1 := HBN.out.frozen 1
    have f2 := HBN.out.frozen 2
    have f3 := HBN.out.frozen 3
    simp at y0 y1 y2 y3
    go_wp2_with fail
    obtain ⟨wz, hwz⟩ : ∃ wz, wz = ((((w2.setCell ⟨g, 0, none⟩ (.bool b)).setCell ⟨g, 1, none⟩ (.int .i64 n)).setCell ⟨g, 2, none⟩ (.int .u8 0)).setCell ⟨g, 3, none⟩ (.int .i64 0)) := ⟨_, rfl⟩
    have hbz : Blk wz g 36 #[.bool b, .int .i64 n, .int .u8 0, .int .i64 0] := by
      rw [hwz]
      simpa using (((HBN.out.set_ 0 (.bool b)).set_ 1 (.int .i64 n)).set_ 2 (.int .u8 0)).set_ 3 (.int .i64 0)
    have hcz : Chg (fun _ => False) w wz := by rw [hwz]; have := HCN.out; have hg' := HG.out; ((repeat (first | with_reducible exact Chg.refl _ _ | with_reducible assumption | with_reducible refine Chg.drewN ?_ _ | with_reducible refine Chg.drew ?_ | with_reducible refine Chg.alloc ?_ _ | with_reducible refine Chg.setCell ?_ (by first | (simp; done) | (simp; omega) | (intro h; simp at h; omega)) _)))
    rw [← hwz]
    have z0 := hbz.cell 0
    have z1 := hbz.cell 1
    have z2 := hbz.cell 2
    have z3 := hbz.cell 3
    simp at z0 z1 z2 z3
    refine bodyPost_ret (v := .tuple #[.agg #[.bool b, .int .i64 n, .int .u8 0, .int .i64 0], .bool b]) (by simp [results, Tryd.results13, go_sem, z0, z1, z2, z3]) rfl ⟨⟨b, n, 0, 0, b, rfl, ?_⟩, hcz⟩
    rw [itemL_M]
    have hn := HN.out
    rw [HTL.out] at hn
    cases hv : numV t with
    | none => rw [hv] at hn; exact hn
    | some v => rw [hv] at hn; exact ⟨hn.2, hn.2, hn.1, rfl, rfl⟩
  · -- an event, perhaps
    have hsz : 2 < s.size := by rw [← e4]; cases r with | nil => exact absurd rfl hr | cons a r => simp
    have hd1 : decide ((s.size : Int) > 2) = true := by simp <;> omega
    have hd2 : decide ((s.size : Int) < 3) = false := by simp <;> omega
    have hM' : (p.toList == [77, 32]) = false := by rw [hM]; rfl
    have hE' : (p.toList == [69, 32]) = true := by rw [hE]; rfl
    have hrl : r.length + 2 = s.size := by rw [← e4]; simp
    have hat : ∀ (j : Nat) (x : UInt8), r[j]? = some x → ∀ w, (Instr.index 9 (.string s) (.int .i64 ((j : Int) + 2))).run Tryd.prog w = .ok (.int .u8 (x.toNat : Int)) w := fun j x hx w => run_atL s (j + 2) x (by rw [HL.out]; simpa using hx) w
    have HAT := Lib.hid hat
    have hgl := HBN.out.lt
    have y0 := HBN.out.cell 0
    have y1 := HBN.out.cell 1
    have y2 := HBN.out.cell 2
    have y3 := HBN.out.cell 3
    have f0 := HBN.out.frozen 0
    have f1 := HBN.out.frozen 1
    have f2 := HBN.out.frozen 2
    have f3 := HBN.out.frozen 3
    have n0 := HBO.out.cell 0
    have n1 := HBO.out.cell 1
    have n2 := HBO.out.cell 2
    have n3 := HBO.out.cell 3
    simp at y0 y1 y2 y3 n0 n1 n2 n3
    clear hM hE hat hr
    go_enter Tryd.func13, Tryd.ntmps13
    go_upto_region 2 with fail
    rw [← HWN.out]
    go_wp2_with fail
    go_loopw [7] (fun k wr => ∃ j : Nat, j ≤ r.length ∧ k = .int .i64 ((j : Int) + 2) ∧ (32 : UInt8) ∉ r.take j ∧ wn = wr) (fun k _ => s.size + 1 - (intOf k).toNat)
    case atStart => exact ⟨0, by omega, rfl, by simp, rfl⟩
    case round =>
      obtain ⟨j, hj, rfl, hno, rfl⟩ := hrel
      have hs2 := HS.out
      rcases Nat.lt_or_ge j r.length with hjl | hjl
      · have hi2 : (j : Int) + 2 < (s.size : Int) := by omega
        obtain ⟨x, hx⟩ : ∃ x, r[j]? = some x := ⟨r[j], by simp [hjl]⟩
        have hix := HAT.out j x hx
        by_cases hx32 : x = 32
        · -- the blank behind the time
          have hq : ((x.toNat : Int) != 32) = false := by rw [hx32]; rfl
          by_cases h3 : r.length < j + 3
          · have hbad : itemL (69 :: 32 :: r) = none := itemL_none (fun t _ h => by injection h with h _; exact absurd h (by decide)) (fun t k v h1 _ h => by
              simp only [List.cons.injEq, true_and] at h
              have hlen : r.length = t.length + (v.length + 3) := by rw [h]; simp
              have hj2 : j < t.length ∨ t.length < j ∨ t.length = j := by omega
              rcases hj2 with hj2 | hj2 | hj2
              · rw [h, List.getElem?_append_left hj2] at hx
                exact h1 (by rw [← hx32]; exact List.mem_of_getElem? hx)
              · refine hno (List.mem_of_getElem? (i := t.length) ?_)
                rw [List.getElem?_take_of_lt hj2, h]
                simp
              · omega)
            have HBAD := Lib.hid hbad
            have hgt : decide ((j : Int) + 2 + 3 > (s.size : Int)) = true := by simp <;> omega
            clear hno hbad hx h3
            have HBADD := HBAD
            go_wp2_with fail
            obtain ⟨wz, hwz⟩ : ∃ wz, wz = ((((wn.setCell ⟨g, 0, none⟩ (.bool false)).setCell ⟨g, 1, none⟩ (.int .i64 0)).setCell ⟨g, 2, none⟩ (.int .u8 0)).setCell ⟨g, 3, none⟩ (.int .i64 0)) := ⟨_, rfl⟩
            have hbz : Blk wz g 36 #[.bool false, .int .i64 0, .int .u8 0, .int .i64 0] := by
              rw [hwz]
              simpa using (((HBN.out.set_ 0 (.bool false)).set_ 1 (.int .i64 0)).set_ 2 (.int .u8 0)).set_ 3 (.int .i64 0)
            have hcz : Chg (fun _ => False) w wz := by rw [hwz]; have := HCN.out; have hg' := HG.out; ((repeat (first | with_reducible exact Chg.refl _ _ | with_reducible assumption | with_reducible refine Chg.drewN ?_ _ | with_reducible refine Chg.drew ?_ | with_reducible refine Chg.alloc ?_ _ | with_reducible refine Chg.setCell ?_ (by first | (simp; done) | (simp; omega) | (intro h; simp at h; omega)) _)))
            rw [← hwz]
            have z0 := hbz.cell 0
            have z1 := hbz.cell 1
            have z2 := hbz.cell 2
            have z3 := hbz.cell 3
            simp at z0 z1 z2 z3
            exact bodyPost_ret (v := .tuple #[.agg #[.bool false, .int .i64 0, .int .u8 0, .int .i64 0], .bool false]) (by simp [results, Tryd.results13, go_sem, z0, z1, z2, z3]) rfl ⟨item_bad HBAD.out rfl, hcz⟩
          · obtain ⟨t, c, d, v, hr2, htl⟩ : ∃ t c d v, r = t ++ 32 :: c :: d :: v ∧ t.length = j := by
              have hdl : (r.drop j).length = r.length - j := List.length_drop
              have hd0 : (r.drop j)[0]? = some 32 := by rw [List.getElem?_drop]; rw [← hx32]; exact hx
              match hd : r.drop j with
              | [] => rw [hd] at hdl; simp at hdl; omega
              | [a] => rw [hd] at hdl; simp at hdl; omega
              | [a, b] => rw [hd] at hdl; simp at hdl; omega
              | a :: c :: d :: v =>
                rw [hd] at hd0
                simp at hd0
                refine ⟨r.take j, c, d, v, ?_, by simp; omega⟩
                rw [← hd0, ← hd, List.take_append_drop]
            have htake : r.take j = t := by rw [hr2, ← htl, List.take_left]
            rw [htake] at hno
            have hgt : decide ((j : Int) + 2 + 3 > (s.size : Int)) = false := by simp <;> omega
            have hic := HAT.out (j + 1) c (by rw [hr2, List.getElem?_append_right (by omega)]; simp [htl])
            have hid := HAT.out (j + 2) d (by rw [hr2, List.getElem?_append_right (by omega)]; simp [htl])
            rw [show ((j + 1 : Nat) : Int) + 2 = (j : Int) + 2 + 1 by omega] at hic
            rw [show ((j + 2 : Nat) : Int) + 2 = (j : Int) + 2 + 2 by omega] at hid
            have hbad : c = 32 ∨ d ≠ 32 → itemL (69 :: 32 :: r) = none := fun hcd => itemL_none (fun t _ h => by injection h with h _; exact absurd h (by decide)) (fun t' k v' h1 h2 h => by
              simp only [List.cons.injEq, true_and] at h
              obtain ⟨_, e2⟩ := first_eq (hr2.symm.trans h) hno h1
              simp only [List.cons.injEq] at e2
              rcases hcd with e | e
              · exact h2 (by rw [← e2.1]; exact e)
              · exact e e2.2.1)
            by_cases hc : c = 32
            · have hcq : ((c.toNat : Int) == 32) = true := by rw [hc]; rfl
              have HBAD := Lib.hid (hbad (.inl hc))
              clear hno hbad hx h3 hx32 hc hr2 htl htake
              have HBADD := HBAD
              go_wp2_with fail
              obtain ⟨wz, hwz⟩ : ∃ wz, wz = ((((wn.setCell ⟨g, 0, none⟩ (.bool false)).setCell ⟨g, 1, none⟩ (.int .i64 0)).setCell ⟨g, 2, none⟩ (.int .u8 0)).setCell ⟨g, 3, none⟩ (.int .i64 0)) := ⟨_, rfl⟩
              have hbz : Blk wz g 36 #[.bool false, .int .i64 0, .int .u8 0, .int .i64 0] := by
                rw [hwz]
                simpa using (((HBN.out.set_ 0 (.bool false)).set_ 1 (.int .i64 0)).set_ 2 (.int .u8 0)).set_ 3 (.int .i64 0)
              have hcz : Chg (fun _ => False) w wz := by rw [hwz]; have := HCN.out; have hg' := HG.out; ((repeat (first | with_reducible exact Chg.refl _ _ | with_reducible assumption | with_reducible refine Chg.drewN ?_ _ | with_reducible refine Chg.drew ?_ | with_reducible refine Chg.alloc ?_ _ | with_reducible refine Chg.setCell ?_ (by first | (simp; done) | (simp; omega) | (intro h; simp at h; omega)) _)))
              rw [← hwz]
              have z0 := hbz.cell 0
              have z1 := hbz.cell 1
              have z2 := hbz.cell 2
              have z3 := hbz.cell 3
              simp at z0 z1 z2 z3
              exact bodyPost_ret (v := .tuple #[.agg #[.bool false, .int .i64 0, .int .u8 0, .int .i64 0], .bool false]) (by simp [results, Tryd.results13, go_sem, z0, z1, z2, z3]) rfl ⟨item_bad HBAD.out rfl, hcz⟩
            · have hcq : ((c.toNat : Int) == 32) = false := by
                rw [beq_eq_false_iff_ne]
                intro h
                exact hc (UInt8.toNat_inj.1 (by have : (32 : UInt8).toNat = 32 := rfl; omega))
              by_cases hd : d = 32
              · have hdq : ((d.toNat : Int) != 32) = false := by rw [hd]; rfl
                have hit : itemL (69 :: 32 :: r) = match numV t, numV v with | some a, some b => some ⟨false, a, c, b⟩ | _, _ => none := by
                  rw [hr2, hd]
                  exact itemL_E t v c hno hc
                have HIT := Lib.hid hit
                obtain ⟨T, hT⟩ : ∃ T, s.extract 2 (j + 2) = T := ⟨_, rfl⟩
                obtain ⟨V, hV⟩ : ∃ V, s.extract (j + 2 + 3) s.size = V := ⟨_, rfl⟩
                have hTl : T.data.toList = t := by
                  rw [← hT, ext_data, HL.out]
                  simp [htake]
                have hVl : V.data.toList = v := by
                  rw [← hV, ext_data, HL.out, List.take_of_length_le (by rw [e4]; exact Nat.le_refl _), hr2, ← htl]
                  simp [List.drop_append]
                have hTs : T.size ≤ 4294967280 := by rw [← hT]; simp; omega
                have hVs : V.size ≤ 4294967280 := by rw [← hV]; simp; omega
                have HTL := Lib.hid hTl
                have HVL := Lib.hid hVl
                have hd := HDIG.out T hTs wn
                have HD := Lib.hid hd
                have hsl := run_slice_string (P := Tryd.prog) wn 9 s .i64 .i64 2 ((j : Int) + 2) Tryd.underlying9 (by omega) (by omega) (by omega)
                rw [show ((j : Int) + 2).toNat = j + 2 by omega, show (2 : Int).toNat = 2 from rfl, hT] at hsl
                have hsv := fun W => (run_slice_string_from_if (P := Tryd.prog) W 9 s .i64 ((j : Int) + 2 + 3) Tryd.underlying9).trans (if_pos (by omega))
                rw [show ((j : Int) + 2 + 3).toNat = j + 2 + 3 by omega, hV] at hsv
                clear hT hV
                clear hd hno hbad hx h3 hx32 hc hr2 htl htake hit hTl hVl
                go_wp2_with fail
                refine HD.out.mono ?_
                rintro e w2 ⟨⟨tn, tb, rfl, htn⟩, hc2⟩
                have HTN := Lib.hid htn
                have HC2 := Lib.hid hc2
                have hd := HDIG.out V hVs w2
                have HDV := Lib.hid hd
                clear htn hc2 hd hsl HD y0 y1 y2 y3 f0 f1 f2 f3 n0 n1 n2 n3
                go_wp2_with fail
                refine HDV.out.mono ?_
                rintro e w3 ⟨⟨vn, vb, rfl, hvn⟩, hc3⟩
                have HVN := Lib.hid hvn
                have hcc := HC2.out.then hc3
                have HB3 := Lib.hid (HBN.out.chg hcc (by simp))
                have HO3 := Lib.hid (HBO.out.chg hcc (by simp))
                have HC3 := Lib.hid (HCN.out.then hcc)
                clear hvn hc3 hcc HC2 HBN HBO HCN HDV hsv HWN
                have HBN := HB3
                have HBO := HO3
                have HCN := HC3
                clear HB3 HO3 HC3 hgl
                have hgl := HBN.out.lt
                have y0 := HBN.out.cell 0
                have y1 := HBN.out.cell 1
                have y2 := HBN.out.cell 2
                have y3 := HBN.out.cell 3
                have f0 := HBN.out.frozen 0
                have f1 := HBN.out.frozen 1
                have f2 := HBN.out.frozen 2
                have f3 := HBN.out.frozen 3
                have n0 := HBO.out.cell 0
                have n1 := HBO.out.cell 1
                have n2 := HBO.out.cell 2
                have n3 := HBO.out.cell 3
                simp at y0 y1 y2 y3 n0 n1 n2 n3
                by_cases hgood : tb = true ∧ vb = true
                · obtain ⟨rfl, rfl⟩ := hgood
                  go_wp2_with fail
                  obtain ⟨wz, hwz⟩ : ∃ wz, wz = ((((w3.setCell ⟨g, 0, none⟩ (.bool false)).setCell ⟨g, 1, none⟩ (.int .i64 tn)).setCell ⟨g, 2, none⟩ (.int .u8 (c.toNat : Int))).setCell ⟨g, 3, none⟩ (.int .i64 vn)) := ⟨_, rfl⟩
                  have hbz : Blk wz g 36 #[.bool false, .int .i64 tn, .int .u8 (c.toNat : Int), .int .i64 vn] := by
                    rw [hwz]
                    simpa using (((HBN.out.set_ 0 (.bool false)).set_ 1 (.int .i64 tn)).set_ 2 (.int .u8 (c.toNat : Int))).set_ 3 (.int .i64 vn)
                  have hcz : Chg (fun _ => False) w wz := by rw [hwz]; have := HCN.out; have hg' := HG.out; ((repeat (first | with_reducible exact Chg.refl _ _ | with_reducible assumption | with_reducible refine Chg.drewN ?_ _ | with_reducible refine Chg.drew ?_ | with_reducible refine Chg.alloc ?_ _ | with_reducible refine Chg.setCell ?_ (by first | (simp; done) | (simp; omega) | (intro h; simp at h; omega)) _)))
                  rw [← hwz]
                  have z0 := hbz.cell 0
                  have z1 := hbz.cell 1
                  have z2 := hbz.cell 2
                  have z3 := hbz.cell 3
                  simp at z0 z1 z2 z3
                  refine bodyPost_ret (v := .tuple #[.agg #[.bool false, .int .i64 tn, .int .u8 (c.toNat : Int), .int .i64 vn], .bool true]) (by simp [results, Tryd.results13, go_sem, z0, z1, z2, z3]) rfl ⟨⟨_, _, _, _, _, rfl, ?_⟩, hcz⟩
                  rw [HIT.out]
                  have h1 := HTN.out
                  have h2 := HVN.out
                  rw [HTL.out] at h1
                  rw [HVL.out] at h2
                  cases e1 : numV t with
                  | none => rw [e1] at h1; exact absurd (show true = false from h1) (by decide)
                  | some a =>
                    rw [e1] at h1
                    cases e2 : numV v with
                    | none => rw [e2] at h2; exact absurd (show true = false from h2) (by decide)
                    | some b =>
                      rw [e2] at h2
                      exact ⟨rfl, rfl, h1.1, rfl, h2.1⟩
                · have hbad : itemL (69 :: 32 :: r) = none := by
                    rw [HIT.out]
                    have h1 := HTN.out
                    have h2 := HVN.out
                    rw [HTL.out] at h1
                    rw [HVL.out] at h2
                    cases e1 : numV t with
                    | none => rfl
                    | some a =>
                      rw [e1] at h1
                      cases e2 : numV v with
                      | none => rfl
                      | some b =>
                        rw [e2] at h2
                        exact absurd ⟨h1.2, h2.2⟩ hgood
                  have HBAD := Lib.hid hbad
                  have ways : tb = false ∨ (tb = true ∧ vb = false) := by
                    cases tb
                    · exact .inl rfl
                    · cases vb
                      · exact .inr ⟨rfl, rfl⟩
                      · exact absurd ⟨rfl, rfl⟩ hgood
                  clear hgood hbad
                  obtain ⟨wn, hwn⟩ : ∃ wn, wn = w3 := ⟨_, rfl⟩
                  subst hwn
                  rcases ways with rfl | ⟨rfl, rfl⟩
                  ·
                    have HBADD := HBAD
                    go_wp2_with fail
                    obtain ⟨wz, hwz⟩ : ∃ wz, wz = ((((wn.setCell ⟨g, 0, none⟩ (.bool false)).setCell ⟨g, 1, none⟩ (.int .i64 0)).setCell ⟨g, 2, none⟩ (.int .u8 0)).setCell ⟨g, 3, none⟩ (.int .i64 0)) := ⟨_, rfl⟩
                    have hbz : Blk wz g 36 #[.bool false, .int .i64 0, .int .u8 0, .int .i64 0] := by
                      rw [hwz]
                      simpa using (((HBN.out.set_ 0 (.bool false)).set_ 1 (.int .i64 0)).set_ 2 (.int .u8 0)).set_ 3 (.int .i64 0)
                    have hcz : Chg (fun _ => False) w wz := by rw [hwz]; have := HCN.out; have hg' := HG.out; ((repeat (first | with_reducible exact Chg.refl _ _ | with_reducible assumption | with_reducible refine Chg.drewN ?_ _ | with_reducible refine Chg.drew ?_ | with_reducible refine Chg.alloc ?_ _ | with_reducible refine Chg.setCell ?_ (by first | (simp; done) | (simp; omega) | (intro h; simp at h; omega)) _)))
                    rw [← hwz]
                    have z0 := hbz.cell 0
                    have z1 := hbz.cell 1
                    have z2 := hbz.cell 2
                    have z3 := hbz.cell 3
                    simp at z0 z1 z2 z3
                    exact bodyPost_ret (v := .tuple #[.agg #[.bool false, .int .i64 0, .int .u8 0, .int .i64 0], .bool false]) (by simp [results, Tryd.results13, go_sem, z0, z1, z2, z3]) rfl ⟨item_bad HBAD.out rfl, hcz⟩
                  ·
                    have HBADD := HBAD
                    go_wp2_with fail
                    obtain ⟨wz, hwz⟩ : ∃ wz, wz = ((((wn.setCell ⟨g, 0, none⟩ (.bool false)).setCell ⟨g, 1, none⟩ (.int .i64 0)).setCell ⟨g, 2, none⟩ (.int .u8 0)).setCell ⟨g, 3, none⟩ (.int .i64 0)) := ⟨_, rfl⟩
                    have hbz : Blk wz g 36 #[.bool false, .int .i64 0, .int .u8 0, .int .i64 0] := by
                      rw [hwz]
                      simpa using (((HBN.out.set_ 0 (.bool false)).set_ 1 (.int .i64 0)).set_ 2 (.int .u8 0)).set_ 3 (.int .i64 0)
                    have hcz : Chg (fun _ => False) w wz := by rw [hwz]; have := HCN.out; have hg' := HG.out; ((repeat (first | with_reducible exact Chg.refl _ _ | with_reducible assumption | with_reducible refine Chg.drewN ?_ _ | with_reducible refine Chg.drew ?_ | with_reducible refine Chg.alloc ?_ _ | with_reducible refine Chg.setCell ?_ (by first | (simp; done) | (simp; omega) | (intro h; simp at h; omega)) _)))
                    rw [← hwz]
                    have z0 := hbz.cell 0
                    have z1 := hbz.cell 1
                    have z2 := hbz.cell 2
                    have z3 := hbz.cell 3
                    simp at z0 z1 z2 z3
                    exact bodyPost_ret (v := .tuple #[.agg #[.bool false, .int .i64 0, .int .u8 0, .int .i64 0], .bool false]) (by simp [results, Tryd.results13, go_sem, z0, z1, z2, z3]) rfl ⟨item_bad HBAD.out rfl, hcz⟩
              · have hdq : ((d.toNat : Int) != 32) = true := by
                  simp only [bne_iff_ne, ne_eq]
                  intro h
                  exact hd (UInt8.toNat_inj.1 (by have : (32 : UInt8).toNat = 32 := rfl; omega))
                have HBAD := Lib.hid (hbad (.inr hd))
                clear hno hbad hx h3 hx32 hc hd hr2 htl htake
                have HBADD := HBAD
                go_wp2_with fail
                obtain ⟨wz, hwz⟩ : ∃ wz, wz = ((((wn.setCell ⟨g, 0, none⟩ (.bool false)).setCell ⟨g, 1, none⟩ (.int .i64 0)).setCell ⟨g, 2, none⟩ (.int .u8 0)).setCell ⟨g, 3, none⟩ (.int .i64 0)) := ⟨_, rfl⟩
                have hbz : Blk wz g 36 #[.bool false, .int .i64 0, .int .u8 0, .int .i64 0] := by
                  rw [hwz]
                  simpa using (((HBN.out.set_ 0 (.bool false)).set_ 1 (.int .i64 0)).set_ 2 (.int .u8 0)).set_ 3 (.int .i64 0)
                have hcz : Chg (fun _ => False) w wz := by rw [hwz]; have := HCN.out; have hg' := HG.out; ((repeat (first | with_reducible exact Chg.refl _ _ | with_reducible assumption | with_reducible refine Chg.drewN ?_ _ | with_reducible refine Chg.drew ?_ | with_reducible refine Chg.alloc ?_ _ | with_reducible refine Chg.setCell ?_ (by first | (simp; done) | (simp; omega) | (intro h; simp at h; omega)) _)))
                rw [← hwz]
                have z0 := hbz.cell 0
                have z1 := hbz.cell 1
                have z2 := hbz.cell 2
                have z3 := hbz.cell 3
                simp at z0 z1 z2 z3
                exact bodyPost_ret (v := .tuple #[.agg #[.bool false, .int .i64 0, .int .u8 0, .int .i64 0], .bool false]) (by simp [results, Tryd.results13, go_sem, z0, z1, z2, z3]) rfl ⟨item_bad HBAD.out rfl, hcz⟩
        · have hq : ((x.toNat : Int) != 32) = true := by
            simp only [bne_iff_ne, ne_eq]
            intro h
            exact hx32 (UInt8.toNat_inj.1 (by have : (32 : UInt8).toNat = 32 := rfl; omega))
          have hno2 : (32 : UInt8) ∉ r.take (j + 1) := by
            rw [List.take_add_one, hx]
            simp only [Option.toList, List.mem_append, List.mem_singleton, not_or]
            exact ⟨hno, fun h => hx32 h.symm⟩
          have HNO := Lib.hid hno2
          clear hno hno2 hx
          go_wp2_with fail
          go_roundw
          case rel => exact ⟨j + 1, by omega, by go_num, HNO.out, by first | rfl | trivial⟩
          case measure => simp [intOf]; omega
      · have hi2 : ¬ (j : Int) + 2 < (s.size : Int) := by omega
        obtain rfl : j = r.length := by omega
        have hbad : itemL (69 :: 32 :: r) = none := itemL_none (fun t _ h => by injection h with h _; exact absurd h (by decide)) (fun t k v _ _ h => by
          simp only [List.cons.injEq, true_and] at h
          exact hno (by rw [List.take_length, h]; simp))
        have HBAD := Lib.hid hbad
        have hgt : decide ((r.length : Int) + 2 + 3 > (s.size : Int)) = true := by simp <;> omega
        clear hno hbad
        have HBADD := HBAD
        go_wp2_with fail
        obtain ⟨wz, hwz⟩ : ∃ wz, wz = ((((wn.setCell ⟨g, 0, none⟩ (.bool false)).setCell ⟨g, 1, none⟩ (.int .i64 0)).setCell ⟨g, 2, none⟩ (.int .u8 0)).setCell ⟨g, 3, none⟩ (.int .i64 0)) := ⟨_, rfl⟩
        have hbz : Blk wz g 36 #[.bool false, .int .i64 0, .int .u8 0, .int .i64 0] := by
          rw [hwz]
          simpa using (((HBN.out.set_ 0 (.bool false)).set_ 1 (.int .i64 0)).set_ 2 (.int .u8 0)).set_ 3 (.int .i64 0)
        have hcz : Chg (fun _ => False) w wz := by rw [hwz]; have := HCN.out; have hg' := HG.out; ((repeat (first | with_reducible exact Chg.refl _ _ | with_reducible assumption | with_reducible refine Chg.drewN ?_ _ | with_reducible refine Chg.drew ?_ | with_reducible refine Chg.alloc ?_ _ | with_reducible refine Chg.setCell ?_ (by first | (simp; done) | (simp; omega) | (intro h; simp at h; omega)) _)))
        rw [← hwz]
        have z0 := hbz.cell 0
        have z1 := hbz.cell 1
        have z2 := hbz.cell 2
        have z3 := hbz.cell 3
        simp at z0 z1 z2 z3
        exact bodyPost_ret (v := .tuple #[.agg #[.bool false, .int .i64 0, .int .u8 0, .int .i64 0], .bool false]) (by simp [results, Tryd.results13, go_sem, z0, z1, z2, z3]) rfl ⟨item_bad HBAD.out rfl, hcz⟩
  · have hbad : itemL l = none := itemL_none (fun t h1 h => by rw [h] at hsm; cases t with | nil => exact absurd rfl h1 | cons a t => simp at hsm) (fun t k v _ _ h => by rw [h] at hsm; simp at hsm)
    have HBAD := Lib.hid hbad
    have hd1 : decide ((s.size : Int) > 2) = false := by simp <;> omega
    have hd2 : decide ((s.size : Int) < 3) = true := by simp <;> omega
    have hgl := HBN.out.lt
    have y0 := HBN.out.cell 0
    have y1 := HBN.out.cell 1
    have y2 := HBN.out.cell 2
    have y3 := HBN.out.cell 3
    have f0 := HBN.out.frozen 0
    have f1 := HBN.out.frozen 1
    have f2 := HBN.out.frozen 2
    have f3 := HBN.out.frozen 3
    have n0 := HBO.out.cell 0
    have n1 := HBO.out.cell 1
    have n2 := HBO.out.cell 2
    have n3 := HBO.out.cell 3
    simp at y0 y1 y2 y3 n0 n1 n2 n3
    clear hbad
    go_enter Tryd.func13, Tryd.ntmps13
    go_upto_region 2 with fail
    rw [← HWN.out]
    have HBADD := HBAD
    go_wp2_with fail
    obtain ⟨wz, hwz⟩ : ∃ wz, wz = ((((wn.setCell ⟨g, 0, none⟩ (.bool false)).setCell ⟨g, 1, none⟩ (.int .i64 0)).setCell ⟨g, 2, none⟩ (.int .u8 0)).setCell ⟨g, 3, none⟩ (.int .i64 0)) := ⟨_, rfl⟩
    have hbz : Blk wz g 36 #[.bool false, .int .i64 0, .int .u8 0, .int .i64 0] := by
      rw [hwz]
      simpa using (((HBN.out.set_ 0 (.bool false)).set_ 1 (.int .i64 0)).set_ 2 (.int .u8 0)).set_ 3 (.int .i64 0)
    have hcz : Chg (fun _ => False) w wz := by rw [hwz]; have := HCN.out; have hg' := HG.out; ((repeat (first | with_reducible exact Chg.refl _ _ | with_reducible assumption | with_reducible refine Chg.drewN ?_ _ | with_reducible refine Chg.drew ?_ | with_reducible refine Chg.alloc ?_ _ | with_reducible refine Chg.setCell ?_ (by first | (simp; done) | (simp; omega) | (intro h; simp at h; omega)) _)))
    rw [← hwz]
    have z0 := hbz.cell 0
    have z1 := hbz.cell 1
    have z2 := hbz.cell 2
    have z3 := hbz.cell 3
    simp at z0 z1 z2 z3
    exact bodyPost_ret (v := .tuple #[.agg #[.bool false, .int .i64 0, .int .u8 0, .int .i64 0], .bool false]) (by simp [results, Tryd.results13, go_sem, z0, z1, z2, z3]) rfl ⟨item_bad HBAD.out rfl, hcz⟩
  · have hbad : itemL l = none := itemL_none (fun t h1 h => h4 (by rw [h]; rfl)) (fun t k v _ _ h => h5 (by rw [h]; rfl))
    have HBAD := Lib.hid hbad
    have hd1 : decide ((s.size : Int) > 2) = true := by simp <;> omega
    have hd2 : decide ((s.size : Int) < 3) = false := by simp <;> omega
    have hM' : (p.toList == [77, 32]) = false := by rw [hM, decide_eq_false h4]
    have hE' : (p.toList == [69, 32]) = false := by rw [hE, decide_eq_false h5]
    have hgl := HBN.out.lt
    have y0 := HBN.out.cell 0
    have y1 := HBN.out.cell 1
    have y2 := HBN.out.cell 2
    have y3 := HBN.out.cell 3
    have f0 := HBN.out.frozen 0
    have f1 := HBN.out.frozen 1
    have f2 := HBN.out.frozen 2
    have f3 := HBN.out.frozen 3
    have n0 := HBO.out.cell 0
    have n1 := HBO.out.cell 1
    have n2 := HBO.out.cell 2
    have n3 := HBO.out.cell 3
    simp at y0 y1 y2 y3 n0 n1 n2 n3
    clear hbad hM hE h4 h5
    go_enter Tryd.func13, Tryd.ntmps13
    go_upto_region 2 with fail
    rw [← HWN.out]
    have HBADD := HBAD
    go_wp2_with fail
    obtain ⟨wz, hwz⟩ : ∃ wz, wz = ((((wn.setCell ⟨g, 0, none⟩ (.bool false)).setCell ⟨g, 1, none⟩ (.int .i64 0)).setCell ⟨g, 2, none⟩ (.int .u8 0)).setCell ⟨g, 3, none⟩ (.int .i64 0)) := ⟨_, rfl⟩
    have hbz : Blk wz g 36 #[.bool false, .int .i64 0, .int .u8 0, .int .i64 0] := by
      rw [hwz]
      simpa using (((HBN.out.set_ 0 (.bool false)).set_ 1 (.int .i64 0)).set_ 2 (.int .u8 0)).set_ 3 (.int .i64 0)
    have hcz : Chg (fun _ => False) w wz := by rw [hwz]; have := HCN.out; have hg' := HG.out; ((repeat (first | with_reducible exact Chg.refl _ _ | with_reducible assumption | with_reducible refine Chg.drewN ?_ _ | with_reducible refine Chg.drew ?_ | with_reducible refine Chg.alloc ?_ _ | with_reducible refine Chg.setCell ?_ (by first | (simp; done) | (simp; omega) | (intro h; simp at h; omega)) _)))
    rw [← hwz]
    have z0 := hbz.cell 0
    have z1 := hbz.cell 1
    have z2 := hbz.cell 2
    have z3 := hbz.cell 3
    simp at z0 z1 z2 z3
    exact bodyPost_ret (v := .tuple #[.agg #[.bool false, .int .i64 0, .int .u8 0, .int .i64 0], .bool false]) (by simp [results, Tryd.results13, go_sem, z0, z1, z2, z3]) rfl ⟨item_bad HBAD.out rfl, hcz⟩
end Go.Proofs.YtihkackkbdnagaaDoor
