/-
  The law VersionPuts returns true.
-/
import Derived.Test.YtahahginmgidjaaVarL
import Derived.Test.YtahahginmgidjaaVerJ
import Derived.Deep.RegionHeld3
namespace Go.Proofs.Ytahahginmgidjaa
open Go.RowKit
set_option linter.unusedVariables false
set_option linter.unusedSimpArgs false

theorem dropsV_fit {s : List UInt8} : ∀ (n k : Nat) (acc dr : List Int) (j : Nat), dropsV s n k acc = .inl (dr, j) → (∀ x ∈ acc, In64 x) → (∀ x ∈ dr, In64 x) ∧ dr.length = acc.length + n
  | 0, k, acc, dr, j, h, ha => by
    rw [dropsV] at h
    injection h with h
    injection h with h1 h2
    subst h1
    exact ⟨ha, rfl⟩
  | n + 1, k, acc, dr, j, h, ha => by
    rw [dropsV_step] at h
    cases hv : getV s k with
    | inr c => rw [hv] at h; cases h
    | inl x =>
      rw [hv] at h
      obtain ⟨h1, h2⟩ := dropsV_fit n x.2 (acc ++ [x.1]) dr j h (fun y hy => by
        rcases List.mem_append.1 hy with hy | hy
        · exact ha y hy
        · simp at hy
          subst hy
          exact getV_in hv)
      exact ⟨h1, by rw [h2]; simp; omega⟩
def PFit (p : PlaceV) : Prop := In64 p.level ∧ In64 p.m.file ∧ In64 p.m.size ∧ p.m.lo.size ≤ 1048576 ∧ p.m.hi.size ≤ 1048576
theorem textV_small {s : List UInt8} {k : Nat} {t : List UInt8} {j : Nat} (h : textV s k = .inl (t, j)) : t.length ≤ 65535 := by
  have := nextT_len s (.inl k)
  have e : nextT s (.inl k) = (t, .inl j) := by simp only [nextT, h]
  rw [e] at this
  exact this
theorem placeV_fit {s : List UInt8} {k : Nat} {p : PlaceV} {j : Nat} (h : placeV s k = .inl (p, j)) : PFit p := by
  unfold placeV at h
  cases h1 : belowV s k 4 with
  | inr c => rw [h1] at h; cases h
  | inl x1 =>
    obtain ⟨l, k1⟩ := x1
    rw [h1] at h
    simp only at h
    cases h2 : getV s k1 with
    | inr c => rw [h2] at h; cases h
    | inl x2 =>
      obtain ⟨f, k2⟩ := x2
      rw [h2] at h
      simp only at h
      cases h3 : getV s k2 with
      | inr c => rw [h3] at h; cases h
      | inl x3 =>
        obtain ⟨z, k3⟩ := x3
        rw [h3] at h
        simp only at h
        cases h4 : textV s k3 with
        | inr c => rw [h4] at h; cases h
        | inl x4 =>
          obtain ⟨lo, k4⟩ := x4
          rw [h4] at h
          simp only at h
          cases h5 : textV s k4 with
          | inr c => rw [h5] at h; cases h
          | inl x5 =>
            obtain ⟨hi, k5⟩ := x5
            rw [h5] at h
            simp only at h
            injection h with h
            injection h with h h'
            subst h
            have b1 := nextB_in (L := s) (most := 4) (by decide) (.inl k)
            have e : nextB s 4 (.inl k) = (l, .inl k1) := by simp only [nextB, h1]
            rw [e] at b1
            simp only at b1
            have t1 := textV_small h4
            have t2 := textV_small h5
            refine ⟨⟨by simp only; omega, by simp only; omega⟩, getV_in h2, getV_in h3, ?_, ?_⟩
            · show lo.toArray.size ≤ _
              rw [List.size_toArray]; omega
            · show hi.toArray.size ≤ _
              rw [List.size_toArray]; omega
theorem addsV_fit {s : List UInt8} : ∀ (n k : Nat) (acc ad : List PlaceV) (j : Nat), addsV s n k acc = .inl (ad, j) → (∀ x ∈ acc, PFit x) → (∀ x ∈ ad, PFit x) ∧ ad.length = acc.length + n
  | 0, k, acc, ad, j, h, ha => by
    rw [addsV] at h
    injection h with h
    injection h with h1 h2
    subst h1
    exact ⟨ha, rfl⟩
  | n + 1, k, acc, ad, j, h, ha => by
    rw [addsV_step] at h
    cases hv : placeV s k with
    | inr c => rw [hv] at h; cases h
    | inl x =>
      rw [hv] at h
      obtain ⟨h1, h2⟩ := addsV_fit n x.2 (acc ++ [x.1]) ad j h (fun y hy => by
        rcases List.mem_append.1 hy with hy | hy
        · exact ha y hy
        · simp at hy
          subst hy
          exact placeV_fit hv)
      exact ⟨h1, by rw [h2]; simp; omega⟩
theorem editV_fit {s : List UInt8} {E : EditV} (h : editV s = .inl E) : EdFit E ∧ E.drop.length ≤ 4096 ∧ E.add.length ≤ 4096 := by
  unfold editV at h
  cases h1 : getV s 0 with
  | inr c => rw [h1] at h; cases h
  | inl x1 =>
    obtain ⟨log, k1⟩ := x1
    rw [h1] at h
    simp only [ed2] at h
    cases h2 : getV s k1 with
    | inr c => rw [h2] at h; cases h
    | inl x2 =>
      obtain ⟨next, k2⟩ := x2
      rw [h2] at h
      simp only [ed3] at h
      cases h3 : getV s k2 with
      | inr c => rw [h3] at h; cases h
      | inl x3 =>
        obtain ⟨seq, k3⟩ := x3
        rw [h3] at h
        simp only [ed4] at h
        cases h4 : belowV s k3 4097 with
        | inr c => rw [h4] at h; cases h
        | inl x4 =>
          obtain ⟨n, k4⟩ := x4
          rw [h4] at h
          simp only [ed5] at h
          cases h5 : dropsV s n.toNat k4 [] with
          | inr c => rw [h5] at h; cases h
          | inl x5 =>
            obtain ⟨dr, k5⟩ := x5
            rw [h5] at h
            simp only [ed6] at h
            cases h6 : belowV s k5 4097 with
            | inr c => rw [h6] at h; cases h
            | inl x6 =>
              obtain ⟨m, k6⟩ := x6
              rw [h6] at h
              simp only [ed7] at h
              cases h7 : addsV s m.toNat k6 [] with
              | inr c => rw [h7] at h; cases h
              | inl x7 =>
                obtain ⟨ad, k7⟩ := x7
                rw [h7] at h
                simp only at h
                split at h
                · cases h
                · injection h with h
                  subst h
                  obtain ⟨d1, d2⟩ := dropsV_fit _ _ _ _ _ h5 (by simp)
                  obtain ⟨a1, a2⟩ := addsV_fit _ _ _ _ _ h7 (by simp)
                  have b1 := nextB_in (L := s) (most := 4097) (by decide) (.inl k3)
                  have e : nextB s 4097 (.inl k3) = (n, .inl k4) := by simp only [nextB, h4]
                  rw [e] at b1
                  have b2 := nextB_in (L := s) (most := 4097) (by decide) (.inl k5)
                  have e : nextB s 4097 (.inl k5) = (m, .inl k6) := by simp only [nextB, h6]
                  rw [e] at b2
                  simp only at b1 b2
                  simp at d2 a2
                  exact ⟨⟨getV_in h1, getV_in h2, getV_in h3, d1, a1, by simp only; omega, by simp only; omega⟩, by simp only; omega, by simp only; omega⟩
/-- What both Gets give: an edit in memory, each of its own; the error. -/
theorem get_both {w' w'' : World} {s : List UInt8} {e e2 : Ending} (h1 : EditAt w' s e) (h2 : EditAt2 w'' s e2) : ∃ (E : EditV) (c : Int) (av dv av2 dv2 : Value), e = .returned (.tuple #[.agg #[av, dv, .int .i64 E.log, .int .i64 E.next, .int .i64 E.seq], .int .i64 c]) ∧
    e2 = .returned (.tuple #[.agg #[av2, dv2, .int .i64 E.log, .int .i64 E.next, .int .i64 E.seq], .int .i64 c]) ∧ EdFit E ∧ Lst placeC w' av E.add ∧ Lst i64C w' dv E.drop ∧ Lst docC w'' av2 E.add ∧ Lst i64C w'' dv2 E.drop := by
  unfold EditAt at h1
  unfold EditAt2 at h2
  cases he : editV s with
  | inl E =>
    rw [he] at h1 h2
    obtain ⟨av, dv, rfl, a1, a2⟩ := h1
    obtain ⟨av2, dv2, rfl, b1, b2⟩ := h2
    exact ⟨E, 0, av, dv, av2, dv2, rfl, rfl, (editV_fit he).1, a1, a2, b1, b2⟩
  | inr c =>
    rw [he] at h1 h2
    obtain ⟨_, rfl⟩ := h1
    obtain ⟨_, rfl⟩ := h2
    exact ⟨⟨[], [], 0, 0, 0⟩, c, _, _, _, _, rfl, rfl, ⟨⟨by decide, by decide⟩, ⟨by decide, by decide⟩, ⟨by decide, by decide⟩, by simp, by simp, by simp, by simp⟩, Lst.nil _ _, Lst.nil _ _, Lst.nil _ _, Lst.nil _ _⟩
set_option maxRecDepth 100000 in
set_option maxHeartbeats 8000000 in
theorem ver_puts (E : EditV) (av dv : Value) (s : ByteArray) (w : World) (hE : EdFit E) (ha : ReadRows w av E.add) (hd : ReadInts w dv E.drop) (hs : s.size ≤ 281474976710656) :
    Calls Try.prog 3 #[.agg #[av, dv, .int .i64 E.log, .int .i64 E.next, .int .i64 E.seq], .string s] w fun e w' => e = .returned (.bool true) ∧ Chg (fun _ => False) w w' := by
  obtain ⟨g, hg⟩ : ∃ g, w.heap.size = g := ⟨_, rfl⟩
  obtain ⟨w1, hw1⟩ : ∃ w1, w1 = w.alloc (.cells #[av, dv, .int .i64 E.log, .int .i64 E.next, .int .i64 E.seq] 25) := ⟨_, rfl⟩
  have hc1 : Chg (fun _ => False) w w1 := by rw [hw1]; ((repeat (first | exact Chg.refl _ _ | assumption | refine Chg.drewN ?_ _ | refine Chg.drew ?_ | refine Chg.alloc ?_ _ | refine Chg.setCell ?_ (by first | (simp; done) | (simp; omega) | (intro h; simp at h; omega)) _)))
  have hb1 : Blk w1 g 25 #[av, dv, .int .i64 E.log, .int .i64 E.next, .int .i64 E.seq] := by rw [hw1, ← hg]; exact Blk.new _ _ _
  have hed := law_edits E av dv w1 (ha.same hc1) (hd.same hc1) hE.adds hE.drops
  have y0 := hb1.cell 0
  have y1 := hb1.cell 1
  have y2 := hb1.cell 2
  have y3 := hb1.cell 3
  have y4 := hb1.cell 4
  simp at y0 y1 y2 y3 y4
  have HW1 := Lib.hid hw1
  have HC1 := Lib.hid hc1
  have HED := Lib.hid hed
  have HFIT := Lib.hid hE
  clear hw1 hc1 hb1 hed hE ha hd
  go_enter Try.func3, Try.ntmps3
  go_upto_region 1 with fail
  rw [← HW1.out]
  go_wp2_with fail
  refine HED.out.mono ?_
  rintro e w2 ⟨va, vd, va2, vd2, rfl, la, ld, la2, ld2, hc2⟩
  obtain ⟨a1, c1, rfl, _⟩ := place_form la
  obtain ⟨a2, c2, rfl, _⟩ := i64_form ld
  obtain ⟨a3, c3, rfl, _⟩ := doc_form la2
  obtain ⟨a4, c4, rfl, _⟩ := i64_form ld2
  have HC2 := Lib.hid (HC1.out.then hc2)
  obtain ⟨q, hq⟩ : ∃ q, w2.heap.size = q := ⟨_, rfl⟩
  obtain ⟨w3, hw3⟩ : ∃ w3, w3 = (w2.alloc (.cells #[.slice a1 E.add.length c1, .slice a2 E.drop.length c2, .int .i64 E.log, .int .i64 E.next, .int .i64 E.seq] 28)).alloc (.cells #[.slice a3 E.add.length c3, .slice a4 E.drop.length c4, .int .i64 E.log, .int .i64 E.next, .int .i64 E.seq] 31) := ⟨_, rfl⟩
  have hc3 : Chg (fun _ => False) w2 w3 := by rw [hw3]; ((repeat (first | exact Chg.refl _ _ | assumption | refine Chg.drewN ?_ _ | refine Chg.drew ?_ | refine Chg.alloc ?_ _ | refine Chg.setCell ?_ (by first | (simp; done) | (simp; omega) | (intro h; simp at h; omega)) _)))
  have HB5 := Lib.hid (show Blk w3 q 28 #[.slice a1 E.add.length c1, .slice a2 E.drop.length c2, .int .i64 E.log, .int .i64 E.next, .int .i64 E.seq] by rw [hw3, ← hq]; exact (Blk.new _ _ _).alloc _)
  have HB6 := Lib.hid (show Blk w3 (q + 1) 31 #[.slice a3 E.add.length c3, .slice a4 E.drop.length c4, .int .i64 E.log, .int .i64 E.next, .int .i64 E.seq] by rw [hw3, ← hq]; exact Blk.new1 _ _ _ _)
  have HC3 := Lib.hid (HC2.out.then hc3)
  have HLA := Lib.hid ((la.same hc3).rows)
  have HLD := Lib.hid ((ld.same hc3).ints)
  have HLA2 := Lib.hid ((la2.same hc3).rows2)
  have HLD2 := Lib.hid ((ld2.same hc3).ints)
  have HW3 := Lib.hid hw3
  clear hc2 hc3 la ld la2 ld2 hw3 y0 y1 y2 y3 y4
  go_upto_region 2 with fail
  rw [← HW3.out]
  go_wp2_with fail
  refine (ve_get s hs w3).mono ?_
  rintro e w4 ⟨h1, hc4⟩
  have HB5b := Lib.hid (HB5.out.chg hc4 (by simp))
  have HB6b := Lib.hid (HB6.out.chg hc4 (by simp))
  have HC4 := Lib.hid hc4
  -- how the document's Get answers, whatever the world
  have hdoc := fun W => rv_get s hs W
  obtain ⟨D, c, dav, ddv, he⟩ : ∃ (D : EditV) (c : Int) (dav ddv : Value), e = .returned (.tuple #[.agg #[dav, ddv, .int .i64 D.log, .int .i64 D.next, .int .i64 D.seq], .int .i64 c]) ∧ EdFit D ∧ Lst placeC w4 dav D.add ∧ Lst i64C w4 ddv D.drop ∧
      (∀ W' e2, EditAt2 W' s.data.toList e2 → ∃ av2 dv2, e2 = .returned (.tuple #[.agg #[av2, dv2, .int .i64 D.log, .int .i64 D.next, .int .i64 D.seq], .int .i64 c]) ∧ Lst docC W' av2 D.add ∧ Lst i64C W' dv2 D.drop) := by
    unfold EditAt at h1
    cases he : editV s.data.toList with
    | inl X =>
      rw [he] at h1
      obtain ⟨av, dv, rfl, a1, a2⟩ := h1
      refine ⟨X, 0, av, dv, rfl, (editV_fit he).1, a1, a2, fun W' e2 h2 => ?_⟩
      unfold EditAt2 at h2
      rw [he] at h2
      obtain ⟨av2, dv2, rfl, b1, b2⟩ := h2
      exact ⟨_, _, rfl, b1, b2⟩
    | inr c =>
      rw [he] at h1
      obtain ⟨_, rfl⟩ := h1
      refine ⟨⟨[], [], 0, 0, 0⟩, c, _, _, rfl, ⟨⟨by decide, by decide⟩, ⟨by decide, by decide⟩, ⟨by decide, by decide⟩, by simp, by simp, by simp, by simp⟩, Lst.nil _ _, Lst.nil _ _, fun W' e2 h2 => ?_⟩
      unfold EditAt2 at h2
      rw [he] at h2
      obtain ⟨_, rfl⟩ := h2
      exact ⟨_, _, rfl, Lst.nil _ _, Lst.nil _ _⟩
  obtain ⟨rfl, hDf, hla, hld, hsame⟩ := he
  obtain ⟨a5, c5, rfl, _⟩ := place_form hla
  obtain ⟨a6, c6, rfl, _⟩ := i64_form hld
  obtain ⟨q7, hq7⟩ : ∃ q7, w4.heap.size = q7 := ⟨_, rfl⟩
  obtain ⟨w5, hw5⟩ : ∃ w5, w5 = w4.alloc (.cells #[.slice a5 D.add.length c5, .slice a6 D.drop.length c6, .int .i64 D.log, .int .i64 D.next, .int .i64 D.seq] 28) := ⟨_, rfl⟩
  have hc5 : Chg (fun _ => False) w4 w5 := by rw [hw5]; ((repeat (first | exact Chg.refl _ _ | assumption | refine Chg.drewN ?_ _ | refine Chg.drew ?_ | refine Chg.alloc ?_ _ | refine Chg.setCell ?_ (by first | (simp; done) | (simp; omega) | (intro h; simp at h; omega)) _)))
  have HB7 := Lib.hid (show Blk w5 q7 28 #[.slice a5 D.add.length c5, .slice a6 D.drop.length c6, .int .i64 D.log, .int .i64 D.next, .int .i64 D.seq] by rw [hw5, ← hq7]; exact Blk.new _ _ _)
  have HC35 := Lib.hid (HC4.out.then hc5)
  have HC45 := Lib.hid hc5
  have HW5 := Lib.hid hw5
  have HDF := Lib.hid hDf
  have HLC := Lib.hid (hla.same hc5)
  have HLE := Lib.hid (hld.same hc5)
  have HSAME := Lib.hid hsame
  have HDOC := Lib.hid hdoc
  clear h1 hc4 hdoc hDf hla hld hsame hw5 hc5
  go_upto_region 3 with fail
  rw [← HW5.out]
  go_wp2_with fail
  refine (HDOC.out w5).mono ?_
  rintro e w6 ⟨h2, hc6⟩
  obtain ⟨av2, dv2, rfl, hla2, hld2⟩ := HSAME.out w6 e h2
  obtain ⟨a7, c7, rfl, _⟩ := doc_form hla2
  obtain ⟨a8, c8, rfl, _⟩ := i64_form hld2
  obtain ⟨q9, hq9⟩ : ∃ q9, w6.heap.size = q9 := ⟨_, rfl⟩
  obtain ⟨w7, hw7⟩ : ∃ w7, w7 = w6.alloc (.cells #[.slice a7 D.add.length c7, .slice a8 D.drop.length c8, .int .i64 D.log, .int .i64 D.next, .int .i64 D.seq] 31) := ⟨_, rfl⟩
  have hc7 : Chg (fun _ => False) w6 w7 := by rw [hw7]; ((repeat (first | exact Chg.refl _ _ | assumption | refine Chg.drewN ?_ _ | refine Chg.drew ?_ | refine Chg.alloc ?_ _ | refine Chg.setCell ?_ (by first | (simp; done) | (simp; omega) | (intro h; simp at h; omega)) _)))
  have HB9 := Lib.hid (show Blk w7 q9 31 #[.slice a7 D.add.length c7, .slice a8 D.drop.length c8, .int .i64 D.log, .int .i64 D.next, .int .i64 D.seq] by rw [hw7, ← hq9]; exact Blk.new _ _ _)
  have HC67 := Lib.hid hc7
  have HC57 := Lib.hid (hc6.then hc7)
  have HC37 := Lib.hid (HC35.out.then HC57.out)
  have HB7e := Lib.hid (HB7.out.chg HC57.out (by simp))
  have HB5e := Lib.hid (HB5.out.chg HC37.out (by simp))
  have HB6e := Lib.hid (HB6.out.chg HC37.out (by simp))
  have HCW := Lib.hid (HC3.out.then HC37.out)
  -- the four texts
  obtain ⟨T1, hT1⟩ : ∃ T : ByteArray, (⟨(putE E).toArray⟩ : ByteArray) = T := ⟨_, rfl⟩
  obtain ⟨T2, hT2⟩ : ∃ T : ByteArray, (⟨(putE D).toArray⟩ : ByteArray) = T := ⟨_, rfl⟩
  have hp1 := fun W (hW : Chg (fun _ => False) w7 W) => ve_put E _ _ W HFIT.out (ReadRows.same HLA.out (HC37.out.then hW)) (ReadInts.same HLD.out (HC37.out.then hW))
  have hp2 := fun W (hW : Chg (fun _ => False) w7 W) => rv_put E _ _ W HFIT.out (ReadRows.same HLA2.out (HC37.out.then hW)) (ReadInts.same HLD2.out (HC37.out.then hW))
  have hp3 := fun W (hW : Chg (fun _ => False) w7 W) => ve_put D _ _ W HDF.out (Lst.rows (HLC.out.same (HC57.out.then hW))) (Lst.ints (HLE.out.same (HC57.out.then hW)))
  have hp4 := fun W (hW : Chg (fun _ => False) w7 W) => rv_put D _ _ W HDF.out (Lst.rows2 (hla2.same (HC67.out.then hW))) (Lst.ints (hld2.same (HC67.out.then hW)))
  rw [hT1] at hp1 hp2
  rw [hT2] at hp3 hp4
  have t1 := bs_test T1 T1
  have t2 := bs_test T2 T2
  rw [decide_eq_true rfl] at t1 t2
  have HP1 := Lib.hid hp1
  have HP2 := Lib.hid hp2
  have HP3 := Lib.hid hp3
  have HP4 := Lib.hid hp4
  have HW7 := Lib.hid hw7
  clear h2 hc6 hla2 hld2 hw7 hc7 hp1 hp2 hp3 hp4 hT1 hT2 HB5 HB6 HB7 HB5b HB6b HDOC HSAME HW5 HW3
  go_upto_region 4 with fail
  rw [← HW7.out]
  clear HW7
  go_region_held3 (fun w' => Chg (fun _ => False) w7 w' ∧ w'.cell? ⟨q, 0, none⟩ = some (.slice a1 E.add.length c1) ∧ w'.cell? ⟨q, 1, none⟩ = some (.slice a2 E.drop.length c2) ∧ w'.cell? ⟨q, 2, none⟩ = some (.int .i64 E.log) ∧ w'.cell? ⟨q, 3, none⟩ = some (.int .i64 E.next) ∧ w'.cell? ⟨q, 4, none⟩ = some (.int .i64 E.seq)
      ∧ w'.cell? ⟨q + 1, 0, none⟩ = some (.slice a3 E.add.length c3) ∧ w'.cell? ⟨q + 1, 1, none⟩ = some (.slice a4 E.drop.length c4) ∧ w'.cell? ⟨q + 1, 2, none⟩ = some (.int .i64 E.log) ∧ w'.cell? ⟨q + 1, 3, none⟩ = some (.int .i64 E.next) ∧ w'.cell? ⟨q + 1, 4, none⟩ = some (.int .i64 E.seq)
      ∧ w'.cell? ⟨q7, 0, none⟩ = some (.slice a5 D.add.length c5) ∧ w'.cell? ⟨q7, 1, none⟩ = some (.slice a6 D.drop.length c6) ∧ w'.cell? ⟨q7, 2, none⟩ = some (.int .i64 D.log) ∧ w'.cell? ⟨q7, 3, none⟩ = some (.int .i64 D.next) ∧ w'.cell? ⟨q7, 4, none⟩ = some (.int .i64 D.seq)
      ∧ w'.cell? ⟨q9, 0, none⟩ = some (.slice a7 D.add.length c7) ∧ w'.cell? ⟨q9, 1, none⟩ = some (.slice a8 D.drop.length c8) ∧ w'.cell? ⟨q9, 2, none⟩ = some (.int .i64 D.log) ∧ w'.cell? ⟨q9, 3, none⟩ = some (.int .i64 D.next) ∧ w'.cell? ⟨q9, 4, none⟩ = some (.int .i64 D.seq))
    ((have hb5 := HB5e.out; have hb6 := HB6e.out; have hb7 := HB7e.out; have hb9 := HB9.out; go_split_ands; (try dsimp only); refine (fun (h : Chg (fun _ => False) w7 _) => ⟨h, by have := (hb5.chg h (by simp)).cell 0; simpa using this, by have := (hb5.chg h (by simp)).cell 1; simpa using this, by have := (hb5.chg h (by simp)).cell 2; simpa using this, by have := (hb5.chg h (by simp)).cell 3; simpa using this, by have := (hb5.chg h (by simp)).cell 4; simpa using this, by have := (hb6.chg h (by simp)).cell 0; simpa using this, by have := (hb6.chg h (by simp)).cell 1; simpa using this, by have := (hb6.chg h (by simp)).cell 2; simpa using this, by have := (hb6.chg h (by simp)).cell 3; simpa using this, by have := (hb6.chg h (by simp)).cell 4; simpa using this, by have := (hb7.chg h (by simp)).cell 0; simpa using this, by have := (hb7.chg h (by simp)).cell 1; simpa using this, by have := (hb7.chg h (by simp)).cell 2; simpa using this, by have := (hb7.chg h (by simp)).cell 3; simpa using this, by have := (hb7.chg h (by simp)).cell 4; simpa using this, by have := (hb9.chg h (by simp)).cell 0; simpa using this, by have := (hb9.chg h (by simp)).cell 1; simpa using this, by have := (hb9.chg h (by simp)).cell 2; simpa using this, by have := (hb9.chg h (by simp)).cell 3; simpa using this, by have := (hb9.chg h (by simp)).cell 4; simpa using this⟩) ?_; (repeat (first | with_reducible exact Chg.refl _ _ | with_reducible assumption | with_reducible refine Chg.drew ?_))))
    (first
      | (go_at_call 7; with_reducible refine (law_wakes _).mono ?_; rintro e x1 ⟨rfl, hd1⟩; have hx1 : Chg (fun _ => False) w7 x1 := Chg.then (by first | (go_split_ands; assumption) | ((repeat (first | with_reducible exact Chg.refl _ _ | with_reducible assumption | with_reducible refine Chg.drewN ?_ _ | with_reducible refine Chg.drew ?_ | with_reducible refine Chg.alloc ?_ _ | with_reducible refine Chg.setCell ?_ (by first | (simp; done) | (simp; omega) | (intro h; simp at h; omega)) _)))) hd1)
      | (go_at_call 8; with_reducible refine (HP1.out _ (by first | (go_split_ands; assumption) | ((repeat (first | with_reducible exact Chg.refl _ _ | with_reducible assumption | with_reducible refine Chg.drewN ?_ _ | with_reducible refine Chg.drew ?_ | with_reducible refine Chg.alloc ?_ _ | with_reducible refine Chg.setCell ?_ (by first | (simp; done) | (simp; omega) | (intro h; simp at h; omega)) _))))).mono ?_; rintro e x2 ⟨rfl, hd2⟩; have hx2 : Chg (fun _ => False) w7 x2 := Chg.then (by first | (go_split_ands; assumption) | ((repeat (first | with_reducible exact Chg.refl _ _ | with_reducible assumption | with_reducible refine Chg.drewN ?_ _ | with_reducible refine Chg.drew ?_ | with_reducible refine Chg.alloc ?_ _ | with_reducible refine Chg.setCell ?_ (by first | (simp; done) | (simp; omega) | (intro h; simp at h; omega)) _)))) hd2)
      | (go_at_call 9; with_reducible refine (HP2.out _ (by first | (go_split_ands; assumption) | ((repeat (first | with_reducible exact Chg.refl _ _ | with_reducible assumption | with_reducible refine Chg.drewN ?_ _ | with_reducible refine Chg.drew ?_ | with_reducible refine Chg.alloc ?_ _ | with_reducible refine Chg.setCell ?_ (by first | (simp; done) | (simp; omega) | (intro h; simp at h; omega)) _))))).mono ?_; rintro e x3 ⟨rfl, hd3⟩; have hx3 : Chg (fun _ => False) w7 x3 := Chg.then (by first | (go_split_ands; assumption) | ((repeat (first | with_reducible exact Chg.refl _ _ | with_reducible assumption | with_reducible refine Chg.drewN ?_ _ | with_reducible refine Chg.drew ?_ | with_reducible refine Chg.alloc ?_ _ | with_reducible refine Chg.setCell ?_ (by first | (simp; done) | (simp; omega) | (intro h; simp at h; omega)) _)))) hd3)
      | (go_at_call 8; with_reducible refine (HP3.out _ (by first | (go_split_ands; assumption) | ((repeat (first | with_reducible exact Chg.refl _ _ | with_reducible assumption | with_reducible refine Chg.drewN ?_ _ | with_reducible refine Chg.drew ?_ | with_reducible refine Chg.alloc ?_ _ | with_reducible refine Chg.setCell ?_ (by first | (simp; done) | (simp; omega) | (intro h; simp at h; omega)) _))))).mono ?_; rintro e x4 ⟨rfl, hd4⟩; have hx4 : Chg (fun _ => False) w7 x4 := Chg.then (by first | (go_split_ands; assumption) | ((repeat (first | with_reducible exact Chg.refl _ _ | with_reducible assumption | with_reducible refine Chg.drewN ?_ _ | with_reducible refine Chg.drew ?_ | with_reducible refine Chg.alloc ?_ _ | with_reducible refine Chg.setCell ?_ (by first | (simp; done) | (simp; omega) | (intro h; simp at h; omega)) _)))) hd4)
      | (go_at_call 9; with_reducible refine (HP4.out _ (by first | (go_split_ands; assumption) | ((repeat (first | with_reducible exact Chg.refl _ _ | with_reducible assumption | with_reducible refine Chg.drewN ?_ _ | with_reducible refine Chg.drew ?_ | with_reducible refine Chg.alloc ?_ _ | with_reducible refine Chg.setCell ?_ (by first | (simp; done) | (simp; omega) | (intro h; simp at h; omega)) _))))).mono ?_; rintro e x5 ⟨rfl, hd5⟩; have hx5 : Chg (fun _ => False) w7 x5 := Chg.then (by first | (go_split_ands; assumption) | ((repeat (first | with_reducible exact Chg.refl _ _ | with_reducible assumption | with_reducible refine Chg.drewN ?_ _ | with_reducible refine Chg.drew ?_ | with_reducible refine Chg.alloc ?_ _ | with_reducible refine Chg.setCell ?_ (by first | (simp; done) | (simp; omega) | (intro h; simp at h; omega)) _)))) hd5))
  have HX := Lib.hid (HCW.out.then hx5)
  clear hd1 hd2 hd3 hd4 hd5 hx1 hx2 hx3 hx4 hx5
  go_wp2_with fail
  go_ret
  exact ⟨rfl, HX.out⟩
end Go.Proofs.Ytahahginmgidjaa
