/-
  The program's manifest: Load.
-/
import Derived.Test.YtahahginmgidjaaGreatDoorZMg42
import Derived.Test.YtahahginmgidjaaGreatDoorZVarQ
import Derived.Deep.DeepCutAuto
namespace Go.Proofs.YtahahginmgidjaaGreatDoor
open Go.RowKit
set_option linter.unusedVariables false
set_option linter.unusedSimpArgs false

open Classical in
/-- What the bodies of a manifest's frames make of a version; none: one can't be. -/
noncomputable def loadGo : List (List UInt8) → VerV → Option VerV
  | [], S => some S
  | b :: r, S => match editV b with
    | .inl E => if okV S E then loadGo r (nextV S E) else none
    | .inr _ => none
noncomputable def bodiesV (l : List UInt8) : VerV × Int :=
  if (allF l).2 = 4 ∨ (allF l).2 = 6 then (VerV.none, 6)
  else if (allF l).1.length = 0 then (VerV.none, 4)
  else match loadGo (allF l).1 VerV.none with
    | some S => (S, 0)
    | none => (VerV.none, 4)
noncomputable def loadM (D : DiskV) : VerV × Int × Int :=
  if (countsV D).2.2 ≠ 0 then (VerV.none, 0, (countsV D).2.2)
  else if (readD D (countsV D).1).2 ≠ 0 then (VerV.none, 0, (readD D (countsV D).1).2)
  else if (bodiesV (readD D (countsV D).1).1.data.toList).2 ≠ 0 then (VerV.none, 0, (bodiesV (readD D (countsV D).1).1.data.toList).2)
  else ((bodiesV (readD D (countsV D).1).1.data.toList).1, (countsV D).2.1, 0)
theorem loadGo_yes {b : List UInt8} {r : List (List UInt8)} {S : VerV} {E : EditV} (h : editV b = .inl E) (ho : okV S E) : loadGo (b :: r) S = loadGo r (nextV S E) := by
  rw [loadGo, h]
  exact if_pos ho
theorem loadGo_no {b : List UInt8} {r : List (List UInt8)} {S : VerV} {E : EditV} (h : editV b = .inl E) (ho : ¬ okV S E) : loadGo (b :: r) S = none := by
  rw [loadGo, h]
  exact if_neg ho
theorem loadGo_bad {b : List UInt8} {r : List (List UInt8)} {S : VerV} {c : Int} (h : editV b = .inr c) : loadGo (b :: r) S = none := by
  rw [loadGo, h]
def sumL (l : List (List UInt8)) : Nat := (l.map List.length).sum
theorem sumL_cons (b : List UInt8) (l : List (List UInt8)) : sumL (b :: l) = b.length + sumL l := by simp [sumL]
theorem at8_le (l : List UInt8) (i : Nat) : at8 l i ≤ 255 := by
  unfold at8
  have := UInt8.toNat_lt (l.getD i 0)
  omega
theorem body_len (l : List UInt8) : (fraBody l).length ≤ 65535 := by
  unfold fraBody
  rw [List.length_take]
  have h0 := at8_le l 0
  have h1 := at8_le l 1
  unfold fraN
  omega
theorem counts_size (D : DiskV) : (countsV D).1.size ≤ 65535 := by
  unfold countsV countV
  split
  · show (0 : Nat) ≤ _; omega
  split
  · decide
  split
  · show (bodyB _).size ≤ _
    unfold bodyB
    have := body_len (readD D curB).1.data.toList
    simp [ByteArray.size]
    exact this
  · decide
theorem allF_sum : ∀ l : List UInt8, sumL (allF l).1 ≤ l.length ∧ ∀ b ∈ (allF l).1, b.length ≤ 65535 := by
  intro l
  induction l using allF.induct with
  | case1 l h _ ih =>
    rw [allF_yes h]
    obtain ⟨g1, g2, g3, g4⟩ := getF_zero h
    rw [List.length_drop] at ih
    refine ⟨?_, ?_⟩
    · rw [sumL_cons]
      have := ih.1
      omega
    · intro b hb
      rcases List.mem_cons.1 hb with rfl | hb
      · exact body_len l
      · exact ih.2 b hb
  | case2 l h => rw [allF_no h]; exact ⟨Nat.zero_le _, fun b hb => by cases hb⟩
/-- What Load answers. -/
def LoadPost (w : World) (R : VerV × Int × Int) (e : Ending) (w' : World) : Prop :=
  ∃ (a0 a1 a2 a3 : Option Addr) (n0 n1 n2 n3 c0 c1 c2 c3 : Nat), Fine R.1 ∧ (flat R.1).length ≤ 1048576 ∧
    e = .returned (.tuple #[.agg #[.slice a0 n0 c0, .slice a1 n1 c1, .slice a2 n2 c2, .slice a3 n3 c3, .int .i64 R.1.log, .int .i64 R.1.next, .int .i64 R.1.seq], .int .i64 R.2.1, .int .i64 R.2.2]) ∧
    VerAt w' (Lv (.slice a0 n0 c0) (.slice a1 n1 c1) (.slice a2 n2 c2) (.slice a3 n3 c3)) R.1.lv ∧ Chg (fun _ => False) w w'
theorem verAt_none (w : World) : VerAt w (Lv (.slice none 0 0) (.slice none 0 0) (.slice none 0 0) (.slice none 0 0)) VerV.none.lv := fun i hi => by
  have : (Lv (.slice none 0 0) (.slice none 0 0) (.slice none 0 0) (.slice none 0 0)) i = .slice none 0 0 := by
    match i, hi with
    | 0, _ => rfl
    | 1, _ => rfl
    | 2, _ => rfl
    | 3, _ => rfl
  rw [this]
  exact Lst.nil _ _
theorem load_bad {w w' : World} (hc : Chg (fun _ => False) w w') {c : Int} {R : VerV × Int × Int} (hR : (VerV.none, (0 : Int), c) = R) :
    LoadPost w R (.returned (.tuple #[.agg #[.slice none 0 0, .slice none 0 0, .slice none 0 0, .slice none 0 0, .int .i64 0, .int .i64 0, .int .i64 0], .int .i64 0, .int .i64 c])) w' := by
  subst hR
  exact ⟨none, none, none, none, 0, 0, 0, 0, 0, 0, 0, 0, Fine.none, by show (0 : Nat) ≤ _; omega, rfl, verAt_none _, hc⟩
theorem edFine_of {s : List UInt8} {E : EditV} (h : editV s = .inl E) : EdFine E := by
  obtain ⟨hf, hd, ha⟩ := editV_fit h
  exact ⟨⟨fun x hx => hf.drop x hx, fun p hp => (hf.add p hp).2.1⟩, hf.next, by omega, by omega⟩
theorem load_cases {t : List UInt8} {n : Int} {R : VerV × Int × Int} (hr : (if (bodiesV t).2 ≠ 0 then (VerV.none, 0, (bodiesV t).2) else ((bodiesV t).1, n, 0)) = R) :
    ((allF t).2 = 4 ∨ (allF t).2 = 6 → (VerV.none, (0 : Int), (6 : Int)) = R) ∧
    (¬ ((allF t).2 = 4 ∨ (allF t).2 = 6) → (allF t).1.length = 0 → (VerV.none, (0 : Int), (4 : Int)) = R) ∧
    (¬ ((allF t).2 = 4 ∨ (allF t).2 = 6) → (allF t).1.length ≠ 0 → loadGo (allF t).1 VerV.none = none → (VerV.none, (0 : Int), (4 : Int)) = R) ∧
    (¬ ((allF t).2 = 4 ∨ (allF t).2 = 6) → (allF t).1.length ≠ 0 → ∀ S, loadGo (allF t).1 VerV.none = some S → (S, n, (0 : Int)) = R) := by
  refine ⟨fun h => ?_, fun h h0 => ?_, fun h h0 hl => ?_, fun h h0 S hl => ?_⟩
  · rw [← hr, bodiesV, if_pos h]; rfl
  · rw [← hr, bodiesV, if_neg h, if_pos h0]; rfl
  · rw [← hr, bodiesV, if_neg h, if_neg h0, hl]; rfl
  · rw [← hr, bodiesV, if_neg h, if_neg h0, hl]; rfl
theorem sumL_take (l : List (List UInt8)) (k : Nat) (b : List UInt8) (h : l[k]? = some b) : sumL (l.take (k + 1)) = sumL (l.take k) + b.length := by
  have hk := (List.getElem?_eq_some_iff.1 h).1
  rw [List.take_succ_eq_append_getElem hk]
  rw [List.getElem?_eq_getElem hk] at h
  rw [Option.some.inj h]
  simp [sumL]
theorem sumL_le (l : List (List UInt8)) (k : Nat) : sumL (l.take k) ≤ sumL l := by
  have : sumL l = sumL (l.take k) + sumL (l.drop k) := by
    unfold sumL
    rw [← List.sum_append, ← List.map_append, List.take_append_drop]
  omega
theorem VerAt.far {w w' : World} {L : Nat → Value} {f : Nat → List MetaV} {g : Nat} {t : TypeId} {cs : Array Value} (h : VerAt w L f) (hb : Blk w g t cs) (ht : t ≠ metaC.e) (hc : Chg (fun k => k = g) w w') : VerAt w' L f := fun i hi =>
  (h i hi).chg hc fun k hk e => by
    obtain ⟨cs', hb'⟩ := (h i hi).typed hk
    subst e
    exact hb.ne_ hb' ht rfl
abbrev zeroVer : Array Value := #[.slice none 0 0, .slice none 0 0, .slice none 0 0, .slice none 0 0, .int .i64 0, .int .i64 0, .int .i64 0]
set_option maxRecDepth 100000 in
set_option maxHeartbeats 8000000 in
theorem ma_load (d : Nat) (D : DiskV) (Y : Nat → Prop) (w0 w : World) (h : DY w0 w d D Y) (ht : Tab w0) (he : ErrOk w0) :
    Calls Tryz.prog 17 #[.pointer (some ⟨d, 0, none⟩)] w (LoadPost w (loadM D)) := by
  have hcnt := fun W (hW : Chg (fun _ => False) w W) => ma_counts d D Y w0 W (h.same hW) ht he
  have hrd := fun n (hn : n.size ≤ maxLen) W (hW : Chg (fun _ => False) w W) => y_read w0 d D Y n hn W (h.same hW)
  have hok := h.ok
  obtain ⟨R, hR⟩ : ∃ R, loadM D = R := ⟨_, rfl⟩
  rw [hR]
  unfold loadM at hR
  have hcs := counts_size D
  obtain ⟨⟨nm, n, ec⟩, hcv⟩ : ∃ r, countsV D = r := ⟨_, rfl⟩
  rw [hcv] at hcnt hR hcs
  simp only at hcnt hR hcs
  obtain ⟨w1, hw1⟩ : ∃ w1, w1 = (w.alloc (.cells zeroVer 29)).alloc (.cells zeroVer 29) := ⟨_, rfl⟩
  have hc1 : Chg (fun _ => False) w w1 := by rw [hw1]; exact ((Chg.refl _ _).alloc _).alloc _
  have hb0 : Blk w1 w.heap.size 29 zeroVer := by rw [hw1]; exact (Blk.new w _ _).alloc _
  have hb1 : Blk w1 (w.heap.size + 1) 29 zeroVer := by rw [hw1]; exact Blk.new1 w _ _ _
  have y0 := hb0.cell 0
  have y1 := hb0.cell 1
  have y2 := hb0.cell 2
  have y3 := hb0.cell 3
  have y4 := hb0.cell 4
  have y5 := hb0.cell 5
  have y6 := hb0.cell 6
  simp at y0 y1 y2 y3 y4 y5 y6
  have z0 := hb1.cell 0
  have z1 := hb1.cell 1
  have z2 := hb1.cell 2
  have z3 := hb1.cell 3
  have z4 := hb1.cell 4
  have z5 := hb1.cell 5
  have z6 := hb1.cell 6
  simp at z0 z1 z2 z3 z4 z5 z6
  have f0 := hb0.frozen 0
  have f1 := hb0.frozen 1
  have f2 := hb0.frozen 2
  have f3 := hb0.frozen 3
  have f4 := hb0.frozen 4
  have f5 := hb0.frozen 5
  have f6 := hb0.frozen 6
  have hcall := hcnt w1 hc1
  have HRD := Lib.hid hrd
  have HOK := Lib.hid hok
  have HR := Lib.hid hR
  have HW1 := Lib.hid hw1
  have HC1 := Lib.hid hc1
  have HB0 := Lib.hid hb0
  have HB1 := Lib.hid hb1
  have HCALL := Lib.hid hcall
  clear hrd hok hR hw1 hc1 hb0 hb1 hcall
  clear hcnt hcv h ht he
  go_enter Tryz.func17, Tryz.ntmps17
  go_upto_region 2 with fail
  rw [← HW1.out]
  go_wp2_with fail
  refine HCALL.out.mono ?_
  rintro e w2 ⟨rfl, hc2⟩
  have hb0 := HB0.out.chg hc2 (by simp)
  have hb1 := HB1.out.chg hc2 (by simp)
  clear y0 y1 y2 y3 y4 y5 y6 z0 z1 z2 z3 z4 z5 z6 f0 f1 f2 f3 f4 f5 f6
  have y0 := hb0.cell 0
  have y1 := hb0.cell 1
  have y2 := hb0.cell 2
  have y3 := hb0.cell 3
  have y4 := hb0.cell 4
  have y5 := hb0.cell 5
  have y6 := hb0.cell 6
  simp at y0 y1 y2 y3 y4 y5 y6
  have z0 := hb1.cell 0
  have z1 := hb1.cell 1
  have z2 := hb1.cell 2
  have z3 := hb1.cell 3
  have z4 := hb1.cell 4
  have z5 := hb1.cell 5
  have z6 := hb1.cell 6
  simp at z0 z1 z2 z3 z4 z5 z6
  have f0 := hb0.frozen 0
  have f1 := hb0.frozen 1
  have f2 := hb0.frozen 2
  have f3 := hb0.frozen 3
  have f4 := hb0.frozen 4
  have f5 := hb0.frozen 5
  have f6 := hb0.frozen 6
  have hc2 := HC1.out.then hc2
  by_cases hec : ec = 0
  · subst hec
    have hr := HR.out
    rw [if_neg (by simp)] at hr
    have hcall2 := HRD.out nm (by unfold maxLen; omega) w2 hc2
    have hsz := readD_size HOK.out nm
    obtain ⟨⟨s, er⟩, hrr⟩ : ∃ r, readD D nm = r := ⟨_, rfl⟩
    rw [hrr] at hr hcall2 hsz
    simp only at hr hcall2 hsz
    have HR2 := Lib.hid hr
    have HCALL2 := Lib.hid hcall2
    have HB0 := Lib.hid hb0
    have HB1 := Lib.hid hb1
    have HC2 := Lib.hid hc2
    clear hr hcall2 hb0 hb1 hc2
    clear hrr
    go_wp2_with fail
    refine HCALL2.out.mono ?_
    rintro e w3 ⟨rfl, hc3⟩
    have hb0 := HB0.out.chg hc3 (by simp)
    have hb1 := HB1.out.chg hc3 (by simp)
    clear y0 y1 y2 y3 y4 y5 y6 z0 z1 z2 z3 z4 z5 z6 f0 f1 f2 f3 f4 f5 f6
    have y0 := hb0.cell 0
    have y1 := hb0.cell 1
    have y2 := hb0.cell 2
    have y3 := hb0.cell 3
    have y4 := hb0.cell 4
    have y5 := hb0.cell 5
    have y6 := hb0.cell 6
    simp at y0 y1 y2 y3 y4 y5 y6
    have z0 := hb1.cell 0
    have z1 := hb1.cell 1
    have z2 := hb1.cell 2
    have z3 := hb1.cell 3
    have z4 := hb1.cell 4
    have z5 := hb1.cell 5
    have z6 := hb1.cell 6
    simp at z0 z1 z2 z3 z4 z5 z6
    have f0 := hb0.frozen 0
    have f1 := hb0.frozen 1
    have f2 := hb0.frozen 2
    have f3 := hb0.frozen 3
    have f4 := hb0.frozen 4
    have f5 := hb0.frozen 5
    have f6 := hb0.frozen 6
    have hc3 := HC2.out.then hc3
    by_cases her : er = 0
    · subst her
      have hr := HR2.out
      rw [if_neg (by simp)] at hr
      have hcas := load_cases hr
      have hcall3 := fra_all s w3 (by omega)
      unfold AllPost at hcall3
      have hsum := allF_sum s.data.toList
      have hss : s.data.toList.length = s.size := Array.length_toList
      rw [hss] at hsum
      obtain ⟨⟨bs, a⟩, haf⟩ : ∃ r, allF s.data.toList = r := ⟨_, rfl⟩
      rw [haf] at hcas hcall3 hsum
      simp only at hcas hcall3 hsum
      have HCAS := Lib.hid hcas
      have HCALL3 := Lib.hid hcall3
      have HB0 := Lib.hid hb0
      have HB1 := Lib.hid hb1
      have HC3 := Lib.hid hc3
      have HSUM := Lib.hid hsum
      clear hcas hcall3 hb0 hb1 hc3 hsum
      clear hr haf hss
      go_wp2_with fail
      refine HCALL3.out.mono ?_
      rintro e w4 ⟨v, l, q, rfl, hbl, hL, hll, hc4⟩
      have hb0 := HB0.out.chg hc4 (by simp)
      have hb1 := HB1.out.chg hc4 (by simp)
      clear y0 y1 y2 y3 y4 y5 y6 z0 z1 z2 z3 z4 z5 z6 f0 f1 f2 f3 f4 f5 f6
      have y0 := hb0.cell 0
      have y1 := hb0.cell 1
      have y2 := hb0.cell 2
      have y3 := hb0.cell 3
      have y4 := hb0.cell 4
      have y5 := hb0.cell 5
      have y6 := hb0.cell 6
      simp at y0 y1 y2 y3 y4 y5 y6
      have z0 := hb1.cell 0
      have z1 := hb1.cell 1
      have z2 := hb1.cell 2
      have z3 := hb1.cell 3
      have z4 := hb1.cell 4
      have z5 := hb1.cell 5
      have z6 := hb1.cell 6
      simp at z0 z1 z2 z3 z4 z5 z6
      have f0 := hb0.frozen 0
      have f1 := hb0.frozen 1
      have f2 := hb0.frozen 2
      have f3 := hb0.frozen 3
      have f4 := hb0.frozen 4
      have f5 := hb0.frozen 5
      have f6 := hb0.frozen 6
      have hc4 := HC3.out.then hc4
      obtain ⟨la, lc, rfl, hlc, _, _⟩ := hL.form strOk
      have hbll : bs.length = l.length := by rw [← hbl]; simp [bl]
      have HL := Lib.hid hL
      have HC4 := Lib.hid hc4
      have HB0 := Lib.hid hb0
      have HB1 := Lib.hid hb1
      have HBL := Lib.hid hbl
      have HBLL := Lib.hid hbll
      clear hL hc4 hb0 hb1 hbl hbll
      by_cases h46 : a = 4 ∨ a = 6
      · have hre := HCAS.out.1 h46
        have HRE := Lib.hid hre
        clear hre
        rcases h46 with rfl | rfl
        all_goals
          go_wp2_with fail
          refine bodyPost_ret (v := .tuple #[.agg zeroVer, .int .i64 0, .int .i64 6]) (by simp [results, Tryz.results17, go_sem, y0, y1, y2, y3, y4, y5, y6]) rfl (load_bad ?_ HRE.out)
          have hc4 := HC4.out
          ((repeat (first | with_reducible exact Chg.refl _ _ | with_reducible assumption | with_reducible refine Chg.drewN ?_ _ | with_reducible refine Chg.drew ?_ | with_reducible refine Chg.alloc ?_ _ | with_reducible refine Chg.setCell ?_ (by first | (simp; done) | (simp; omega) | (intro h; simp at h; omega)) _)))
      · have q1 : ((a : Int) == 4) = false := by simp; omega
        have q2 : ((a : Int) == 6) = false := by simp; omega
        by_cases hl0 : l.length = 0
        · have hre := HCAS.out.2.1 h46 (by rw [HBLL.out, hl0])
          have q3 : ((l.length : Int) == 0) = true := by simp [hl0]
          have q4 : ((l.length : Nat) == 0) = true := by simp [hl0]
          have HRE := Lib.hid hre
          have H46 := Lib.hid h46
          have HL0 := Lib.hid hl0
          clear hre h46 hl0
          go_wp2_with fail
          refine bodyPost_ret (v := .tuple #[.agg zeroVer, .int .i64 0, .int .i64 4]) (by simp [results, Tryz.results17, go_sem, y0, y1, y2, y3, y4, y5, y6]) rfl (load_bad ?_ HRE.out)
          have hc4 := HC4.out
          ((repeat (first | with_reducible exact Chg.refl _ _ | with_reducible assumption | with_reducible refine Chg.drewN ?_ _ | with_reducible refine Chg.drew ?_ | with_reducible refine Chg.alloc ?_ _ | with_reducible refine Chg.setCell ?_ (by first | (simp; done) | (simp; omega) | (intro h; simp at h; omega)) _)))
        · have q3 : ((l.length : Int) == 0) = false := by simp [hl0]
          have q4 : ((l.length : Nat) == 0) = false := by simp [hl0]
          have hno := fun hn => HCAS.out.2.2.1 h46 (by rw [HBLL.out]; exact hl0) hn
          have hyes := fun S hn => HCAS.out.2.2.2 h46 (by rw [HBLL.out]; exact hl0) S hn
          obtain ⟨w5, hw5⟩ : ∃ w5, w5 = w4.alloc (.cells zeroVer 29) := ⟨_, rfl⟩
          have hb5 : Blk w5 w4.heap.size 29 zeroVer := by rw [hw5]; exact Blk.new _ _ _
          have hc45 : Chg (fun _ => False) w4 w5 := by rw [hw5]; exact (Chg.refl _ _).alloc _
          have hw45 := hc45.size
          have hw04 := HC4.out.size
          have hlt1 := HB1.out.lt
          have HNO := Lib.hid hno
          have HYES := Lib.hid hyes
          have H46 := Lib.hid h46
          have HL0 := Lib.hid hl0
          have HW5 := Lib.hid hw5
          have HB5 := Lib.hid hb5
          have HC45 := Lib.hid hc45
          clear hno hyes h46 hl0 hw5 hb5 hc45
          clear HCAS HCALL3 HCALL2 HCALL HRD HR2 HR HW1
          go_upto_region 14 with fail
          rw [← HW5.out]
          go_wp2_with fail
          go_loopw [60] (fun i wr => ∃ (k : Nat) (S : VerV) (a0 a1 a2 a3 : Option Addr) (n0 n1 n2 n3 c0 c1 c2 c3 : Nat), i = .int .i64 k ∧ k ≤ l.length ∧ Fine S ∧ (flat S).length ≤ sumL (bs.take k) ∧ loadGo (bs.drop k) S = loadGo bs VerV.none ∧
            Blk wr w4.heap.size 29 #[.slice a0 n0 c0, .slice a1 n1 c1, .slice a2 n2 c2, .slice a3 n3 c3, .int .i64 S.log, .int .i64 S.next, .int .i64 S.seq] ∧
            VerAt wr (Lv (.slice a0 n0 c0) (.slice a1 n1 c1) (.slice a2 n2 c2) (.slice a3 n3 c3)) S.lv ∧ Chg (fun k => k = w4.heap.size) w5 wr) (fun i _ => l.length - (intOf i).toNat)
          case atStart => exact ⟨0, VerV.none, none, none, none, none, 0, 0, 0, 0, 0, 0, 0, 0, rfl, Nat.zero_le _, Fine.none, Nat.zero_le _, rfl, HB5.out, verAt_none _, Chg.refl _ _⟩
          case round =>
            obtain ⟨k, S, a0, a1, a2, a3, n0, n1, n2, n3, c0, c1, c2, c3, rfl, hk, hF, hlen, hlg, hbv, hva, hcr⟩ := hrel
            have hb0 := (HB0.out.chg HC45.out (by simp)).chg hcr (by omega)
            have hb1 := (HB1.out.chg HC45.out (by simp)).chg hcr (by omega)
            clear y0 y1 y2 y3 y4 y5 y6 z0 z1 z2 z3 z4 z5 z6 f0 f1 f2 f3 f4 f5 f6
            have y0 := hb0.cell 0
            have y1 := hb0.cell 1
            have y2 := hb0.cell 2
            have y3 := hb0.cell 3
            have y4 := hb0.cell 4
            have y5 := hb0.cell 5
            have y6 := hb0.cell 6
            simp at y0 y1 y2 y3 y4 y5 y6
            have z0 := hb1.cell 0
            have z1 := hb1.cell 1
            have z2 := hb1.cell 2
            have z3 := hb1.cell 3
            have z4 := hb1.cell 4
            have z5 := hb1.cell 5
            have z6 := hb1.cell 6
            simp at z0 z1 z2 z3 z4 z5 z6
            have f0 := hb0.frozen 0
            have f1 := hb0.frozen 1
            have f2 := hb0.frozen 2
            have f3 := hb0.frozen 3
            have f4 := hb0.frozen 4
            have f5 := hb0.frozen 5
            have f6 := hb0.frozen 6
            by_cases hlt : k < l.length
            · obtain ⟨x, hx, hA, hB, hC, hD⟩ := split_at hlt
              have hLr : Lst strC wr (.slice la l.length lc) l := (HL.out.same HC45.out).chg hcr fun k' hk' e => by have := HL.out.lt hk'; omega
              obtain ⟨a', cap', hva', _, _, hr'⟩ := hLr.form strOk
              injection hva' with e1 e2 e3
              subst e1 e3
              obtain ⟨b, rfl, hb, _, hcell⟩ := hr' _ _ _ hA
              have x0 := hcell 0 _ rfl
              rw [hB] at x0
              simp only [strC, Nat.mul_one, Nat.add_zero] at x0
              have hbk : bs[k]? = some x.data.toList := by rw [← HBL.out]; simp [bl, hx]
              have hbk2 := List.getElem?_eq_some_iff.1 hbk
              have hdk : bs.drop k = x.data.toList :: bs.drop (k + 1) := by
                rw [List.drop_eq_getElem_cons hbk2.1, hbk2.2]
              have hxl := HSUM.out.2 _ (List.mem_of_getElem? hbk)
              have hxs : x.data.toList.length = x.size := Array.length_toList
              have hst := sumL_take bs k _ hbk
              have hsl := sumL_le bs (k + 1)
              have hs1 := HSUM.out.1
              have hfl : (flat S).length ≤ 1048576 := by omega
              have hge := ve_get x (by omega) wr
              unfold EditAt at hge
              have hq : decide ((k : Int) < (l.length : Int)) = true := by simp; omega
              rw [hdk] at hlg
              have hszr := hcr.size
              have hw45 := HC45.out.size
              have hltv := hbv.lt
              cases hE : editV x.data.toList with
              | inr c =>
                rw [hE] at hge
                have hre := HNO.out (by rw [← hlg, loadGo_bad hE])
                have hc' : Chg (fun _ => False) w wr := (HC4.out.then HC45.out).trans hcr fun k hk e => by omega
                have HGE := Lib.hid hge
                have HRE := Lib.hid hre
                have HB0 := Lib.hid hb0
                have HB1 := Lib.hid hb1
                have HC' := Lib.hid hc'
                clear hge hre hb0 hb1 hc'
                clear hst hsl hs1 hxl hxs hlg hlen hC hD hcell hr' hA hdk hE hbk hbk2 hx hLr hcr hbv hva hB hltv
                go_wp2_with fail
                refine HGE.out.mono ?_
                rintro e w6 ⟨⟨hc0, rfl⟩, hc6⟩
                obtain ⟨w7, hw7⟩ : ∃ w7, w7 = w6.alloc (.cells #[.slice none 0 0, .slice none 0 0, .int .i64 0, .int .i64 0, .int .i64 0] 57) := ⟨_, rfl⟩
                have hc67 : Chg (fun _ => False) w6 w7 := by rw [hw7]; exact (Chg.refl _ _).alloc _
                have hc7 := hc6.then hc67
                have hb0 := HB0.out.chg hc7 (by simp)
                have hb1 := HB1.out.chg hc7 (by simp)
                clear y0 y1 y2 y3 y4 y5 y6 z0 z1 z2 z3 z4 z5 z6 f0 f1 f2 f3 f4 f5 f6
                have y0 := hb0.cell 0
                have y1 := hb0.cell 1
                have y2 := hb0.cell 2
                have y3 := hb0.cell 3
                have y4 := hb0.cell 4
                have y5 := hb0.cell 5
                have y6 := hb0.cell 6
                simp at y0 y1 y2 y3 y4 y5 y6
                have z0 := hb1.cell 0
                have z1 := hb1.cell 1
                have z2 := hb1.cell 2
                have z3 := hb1.cell 3
                have z4 := hb1.cell 4
                have z5 := hb1.cell 5
                have z6 := hb1.cell 6
                simp at z0 z1 z2 z3 z4 z5 z6
                have f0 := hb0.frozen 0
                have f1 := hb0.frozen 1
                have f2 := hb0.frozen 2
                have f3 := hb0.frozen 3
                have f4 := hb0.frozen 4
                have f5 := hb0.frozen 5
                have f6 := hb0.frozen 6
                have h1 : (c != 0) = true := by simp [hc0]
                have h2 : (c == 0) = false := by simp [hc0]
                have hc7 := HC'.out.then hc7
                have HC0 := Lib.hid hc0
                have HC7 := Lib.hid hc7
                have HW7 := Lib.hid hw7
                clear hc0 hc7 hw7
                go_upto_region 18 with fail
                rw [← HW7.out]
                go_wp2_with fail
                refine bodyPost_ret (v := .tuple #[.agg zeroVer, .int .i64 0, .int .i64 4]) (by simp [results, Tryz.results17, go_sem, y0, y1, y2, y3, y4, y5, y6]) rfl (load_bad ?_ HRE.out)
                have hc7 := HC7.out
                ((repeat (first | with_reducible exact Chg.refl _ _ | with_reducible assumption | with_reducible refine Chg.drewN ?_ _ | with_reducible refine Chg.drew ?_ | with_reducible refine Chg.alloc ?_ _ | with_reducible refine Chg.setCell ?_ (by first | (simp; done) | (simp; omega) | (intro h; simp at h; omega)) _)))
              | inl E =>
                rw [hE] at hge
                have hFE := edFine_of hE
                have hAd := editV_adds hE
                have HGE := Lib.hid hge
                have HB0 := Lib.hid hb0
                have HB1 := Lib.hid hb1
                have HST := Lib.hid hst
                have HLG := Lib.hid hlg
                have HLEN := Lib.hid hlen
                have HE := Lib.hid hE
                have HFE := Lib.hid hFE
                have HAD := Lib.hid hAd
                have HVA := Lib.hid hva
                have HBV := Lib.hid hbv
                have HCR := Lib.hid hcr
                have HDK := Lib.hid hdk
                have HF := Lib.hid hF
                clear hge hb0 hb1 hst hlg hlen hE hFE hAd hva hbv hcr hdk hF
                clear hC hD hcell hr' hA hbk hbk2 hx hLr hB
                go_wp2_with fail
                refine HGE.out.mono ?_
                rintro e w6 ⟨⟨av, dv, rfl, hA6, hD6⟩, hc6⟩
                obtain ⟨aa, ac, rfl, _, _, _⟩ := hA6.form placeOk
                obtain ⟨da, dc, rfl, _, _, _⟩ := hD6.form i64Ok
                obtain ⟨w7, hw7⟩ : ∃ w7, w7 = w6.alloc (.cells #[.slice aa E.add.length ac, .slice da E.drop.length dc, .int .i64 E.log, .int .i64 E.next, .int .i64 E.seq] 57) := ⟨_, rfl⟩
                have hc67 : Chg (fun _ => False) w6 w7 := by rw [hw7]; exact (Chg.refl _ _).alloc _
                have hbe : Blk w7 w6.heap.size 57 #[.slice aa E.add.length ac, .slice da E.drop.length dc, .int .i64 E.log, .int .i64 E.next, .int .i64 E.seq] := by rw [hw7]; exact Blk.new _ _ _
                have hc7 := hc6.then hc67
                have hv7 := HVA.out.same hc7
                have hbv7 := HBV.out.chg hc7 (by simp)
                have hb0 := HB0.out.chg hc7 (by simp)
                have hb1 := HB1.out.chg hc7 (by simp)
                clear y0 y1 y2 y3 y4 y5 y6 z0 z1 z2 z3 z4 z5 z6 f0 f1 f2 f3 f4 f5 f6
                have y0 := hb0.cell 0
                have y1 := hb0.cell 1
                have y2 := hb0.cell 2
                have y3 := hb0.cell 3
                have y4 := hb0.cell 4
                have y5 := hb0.cell 5
                have y6 := hb0.cell 6
                simp at y0 y1 y2 y3 y4 y5 y6
                have z0 := hb1.cell 0
                have z1 := hb1.cell 1
                have z2 := hb1.cell 2
                have z3 := hb1.cell 3
                have z4 := hb1.cell 4
                have z5 := hb1.cell 5
                have z6 := hb1.cell 6
                simp at z0 z1 z2 z3 z4 z5 z6
                have f0 := hb0.frozen 0
                have f1 := hb0.frozen 1
                have f2 := hb0.frozen 2
                have f3 := hb0.frozen 3
                have f4 := hb0.frozen 4
                have f5 := hb0.frozen 5
                have f6 := hb0.frozen 6
                have g0 := hbe.cell 0
                have g1 := hbe.cell 1
                have g2 := hbe.cell 2
                have g3 := hbe.cell 3
                have g4 := hbe.cell 4
                simp at g0 g1 g2 g3 g4
                have v0 := hbv7.cell 0
                have v1 := hbv7.cell 1
                have v2 := hbv7.cell 2
                have v3 := hbv7.cell 3
                have v4 := hbv7.cell 4
                have v5 := hbv7.cell 5
                have v6 := hbv7.cell 6
                simp at v0 v1 v2 v3 v4 v5 v6
                have hyes := fun ho => va_yes S E (.slice a0 n0 c0) (.slice a1 n1 c1) (.slice a2 n2 c2) (.slice a3 n3 c3) (.slice aa E.add.length ac) (.slice da E.drop.length dc) w7 HF.out HFE.out hv7 (hA6.same hc67) (hD6.same hc67) (by omega) ho
                have hnot := fun ho => va_no S E (.slice a0 n0 c0) (.slice a1 n1 c1) (.slice a2 n2 c2) (.slice a3 n3 c3) (.slice aa E.add.length ac) (.slice da E.drop.length dc) w7 HF.out HFE.out hv7 (hA6.same hc67) (hD6.same hc67) (by omega) ho
                have HYS := Lib.hid hyes
                have HNT := Lib.hid hnot
                have HW7 := Lib.hid hw7
                have HB0 := Lib.hid hb0
                have HB1 := Lib.hid hb1
                have HBV7 := Lib.hid hbv7
                have HC7 := Lib.hid hc7
                clear hyes hnot hw7 hb0 hb1 hbv7 hc7
                clear hc67 hbe hA6 hD6 hc6 hv7
                go_upto_region 18 with fail
                rw [← HW7.out]
                by_cases hok : okV S E
                · have hcall := HYS.out hok
                  have HCALL := Lib.hid hcall
                  have HOK' := Lib.hid hok
                  clear hcall hok
                  go_upto_region 20 with fail
                  go_wp2_with fail
                  refine HCALL.out.mono ?_
                  rintro e w8 ⟨o0, o1, o2, o3, m0, m1, m2, m3, d0, d1, d2, d3, rfl, hv8, hc8⟩
                  have hbv8 := HBV7.out.chg hc8 (by simp)
                  have p0 := hbv8.frozen 0
                  have p1 := hbv8.frozen 1
                  have p2 := hbv8.frozen 2
                  have p3 := hbv8.frozen 3
                  have p4 := hbv8.frozen 4
                  have p5 := hbv8.frozen 5
                  have p6 := hbv8.frozen 6
                  clear v0 v1 v2 v3 v4 v5 v6 y0 y1 y2 y3 y4 y5 y6 z0 z1 z2 z3 z4 z5 z6 f0 f1 f2 f3 f4 f5 f6 g0 g1 g2 g3 g4
                  have v0 := hbv8.cell 0
                  have v1 := hbv8.cell 1
                  have v2 := hbv8.cell 2
                  have v3 := hbv8.cell 3
                  have v4 := hbv8.cell 4
                  have v5 := hbv8.cell 5
                  have v6 := hbv8.cell 6
                  simp at v0 v1 v2 v3 v4 v5 v6
                  have hi := IntWalk.i64_in ((k : Int) + 1) (by omega)
                  have HV8 := Lib.hid hv8
                  have HBV8 := Lib.hid hbv8
                  have HC8 := Lib.hid hc8
                  clear hv8 hbv8 hc8
                  go_wp2_with fail
                  go_roundw
                  · have hset : Chg (fun k => k = w4.heap.size) w8 (((((((w8.setCell ⟨w4.heap.size, 0, none⟩ (.slice o0 m0 d0)).setCell ⟨w4.heap.size, 1, none⟩ (.slice o1 m1 d1)).setCell ⟨w4.heap.size, 2, none⟩ (.slice o2 m2 d2)).setCell ⟨w4.heap.size, 3, none⟩ (.slice o3 m3 d3)).setCell ⟨w4.heap.size, 4, none⟩ (.int .i64 E.log)).setCell ⟨w4.heap.size, 5, none⟩ (.int .i64 E.next)).setCell ⟨w4.heap.size, 6, none⟩ (.int .i64 E.seq)) := by ((repeat (first | with_reducible exact Chg.refl _ _ | with_reducible assumption | with_reducible refine Chg.drewN ?_ _ | with_reducible refine Chg.drew ?_ | with_reducible refine Chg.alloc ?_ _ | with_reducible refine Chg.setCell ?_ (by first | (simp; done) | (simp; omega) | (intro h; simp at h; omega)) _)))
                    have hnl := next_len HOK'.out
                    have hst := HST.out
                    have hlen := HLEN.out
                    have had := HAD.out
                    refine ⟨k + 1, nextV S E, o0, o1, o2, o3, m0, m1, m2, m3, d0, d1, d2, d3, by simp, by omega, HF.out.next HOK'.out HFE.out.nx, by omega, by rw [← HLG.out, loadGo_yes HE.out HOK'.out], ?_, HV8.out.far HBV8.out (by decide) hset, (HCR.out.then ((HC7.out.then HC8.out).mono fun _ _ e => e.elim)).then hset⟩
                    have hb := ((((((HBV8.out.set_ 0 (.slice o0 m0 d0)).set_ 1 (.slice o1 m1 d1)).set_ 2 (.slice o2 m2 d2)).set_ 3 (.slice o3 m3 d3)).set_ 4 (.int .i64 E.log)).set_ 5 (.int .i64 E.next)).set_ 6 (.int .i64 E.seq)
                    simp at hb
                    exact hb
                  · simp [intOf]; omega
                · have hcall := HNT.out hok
                  have hre := HNO.out (by rw [← HLG.out, loadGo_no HE.out hok])
                  have hc' : Chg (fun _ => False) w w7 := ((HC4.out.then HC45.out).trans HCR.out fun k hk e => by omega).then HC7.out
                  have HCALL := Lib.hid hcall
                  have HRE := Lib.hid hre
                  have HC' := Lib.hid hc'
                  have HOK := Lib.hid hok
                  clear hcall hre hc' hok
                  go_upto_region 20 with fail
                  go_wp2_with fail
                  refine HCALL.out.mono ?_
                  rintro e w8 ⟨rfl, hc8⟩
                  have hb0 := HB0.out.chg hc8 (by simp)
                  have hb1 := HB1.out.chg hc8 (by simp)
                  have hbv8 := HBV7.out.chg hc8 (by simp)
                  have p0 := hbv8.frozen 0
                  have p1 := hbv8.frozen 1
                  have p2 := hbv8.frozen 2
                  have p3 := hbv8.frozen 3
                  have p4 := hbv8.frozen 4
                  have p5 := hbv8.frozen 5
                  have p6 := hbv8.frozen 6
                  clear v0 v1 v2 v3 v4 v5 v6 g0 g1 g2 g3 g4
                  clear y0 y1 y2 y3 y4 y5 y6 z0 z1 z2 z3 z4 z5 z6 f0 f1 f2 f3 f4 f5 f6
                  have y0 := hb0.cell 0
                  have y1 := hb0.cell 1
                  have y2 := hb0.cell 2
                  have y3 := hb0.cell 3
                  have y4 := hb0.cell 4
                  have y5 := hb0.cell 5
                  have y6 := hb0.cell 6
                  simp at y0 y1 y2 y3 y4 y5 y6
                  have z0 := hb1.cell 0
                  have z1 := hb1.cell 1
                  have z2 := hb1.cell 2
                  have z3 := hb1.cell 3
                  have z4 := hb1.cell 4
                  have z5 := hb1.cell 5
                  have z6 := hb1.cell 6
                  simp at z0 z1 z2 z3 z4 z5 z6
                  have f0 := hb0.frozen 0
                  have f1 := hb0.frozen 1
                  have f2 := hb0.frozen 2
                  have f3 := hb0.frozen 3
                  have f4 := hb0.frozen 4
                  have f5 := hb0.frozen 5
                  have f6 := hb0.frozen 6
                  have v0 := hbv8.cell 0
                  have v1 := hbv8.cell 1
                  have v2 := hbv8.cell 2
                  have v3 := hbv8.cell 3
                  have v4 := hbv8.cell 4
                  have v5 := hbv8.cell 5
                  have v6 := hbv8.cell 6
                  simp at v0 v1 v2 v3 v4 v5 v6
                  have hc8 := HC'.out.then hc8
                  have HC8 := Lib.hid hc8
                  have HBV8 := Lib.hid hbv8
                  clear hc8 hbv8
                  go_wp2_with fail
                  refine bodyPost_ret (v := .tuple #[.agg zeroVer, .int .i64 0, .int .i64 4]) (by simp [results, Tryz.results17, go_sem, y0, y1, y2, y3, y4, y5, y6]) rfl (load_bad ?_ HRE.out)
                  have hc8 := HC8.out
                  ((repeat (first | with_reducible exact Chg.refl _ _ | with_reducible assumption | with_reducible refine Chg.drewN ?_ _ | with_reducible refine Chg.drew ?_ | with_reducible refine Chg.alloc ?_ _ | with_reducible refine Chg.setCell ?_ (by first | (simp; done) | (simp; omega) | (intro h; simp at h; omega)) _)))
            · have hke : k = l.length := by omega
              subst hke
              have hq : decide ((l.length : Int) < (l.length : Int)) = false := by simp
              have hre := HYES.out S (by rw [← hlg, List.drop_of_length_le (by rw [HBLL.out]; exact Nat.le_refl _), loadGo])
              have hc' : Chg (fun _ => False) w wr := (HC4.out.then HC45.out).trans hcr fun k hk e => by omega
              have hsl := sumL_le bs l.length
              have v0 := hbv.cell 0
              have v1 := hbv.cell 1
              have v2 := hbv.cell 2
              have v3 := hbv.cell 3
              have v4 := hbv.cell 4
              have v5 := hbv.cell 5
              have v6 := hbv.cell 6
              simp at v0 v1 v2 v3 v4 v5 v6
              have HRE := Lib.hid hre
              have HC' := Lib.hid hc'
              have HVA := Lib.hid hva
              have HF := Lib.hid hF
              have HB0 := Lib.hid hb0
              clear hre hc' hva hF hb0
              clear hcr hbv hlg
              go_wp2_with fail
              refine bodyPost_ret (v := .tuple #[.agg #[.slice a0 n0 c0, .slice a1 n1 c1, .slice a2 n2 c2, .slice a3 n3 c3, .int .i64 S.log, .int .i64 S.next, .int .i64 S.seq], .int .i64 n, .int .i64 0]) (by simp [results, Tryz.results17, go_sem, y0, y1, y2, y3, y4, y5, y6]) rfl ?_
              rw [← HRE.out]
              refine ⟨a0, a1, a2, a3, n0, n1, n2, n3, c0, c1, c2, c3, HF.out, by have := HSUM.out.1; show (flat S).length ≤ _; omega, rfl, ?_, ?_⟩
              · exact HVA.out.far (HB0.out) (by decide) (by ((repeat (first | with_reducible exact Chg.refl _ _ | with_reducible assumption | with_reducible refine Chg.drewN ?_ _ | with_reducible refine Chg.drew ?_ | with_reducible refine Chg.alloc ?_ _ | with_reducible refine Chg.setCell ?_ (by first | (simp; done) | (simp; omega) | (intro h; simp at h; omega)) _))))
              · have hc' := HC'.out
                ((repeat (first | with_reducible exact Chg.refl _ _ | with_reducible assumption | with_reducible refine Chg.drewN ?_ _ | with_reducible refine Chg.drew ?_ | with_reducible refine Chg.alloc ?_ _ | with_reducible refine Chg.setCell ?_ (by first | (simp; done) | (simp; omega) | (intro h; simp at h; omega)) _)))
    · have h1 : (er != 0) = true := by simp [her]
      have h2 : (er == 0) = false := by simp [her]
      have hre := HR2.out
      rw [if_pos her] at hre
      have HRE := Lib.hid hre
      clear hre
      go_wp2_with fail
      refine bodyPost_ret (v := .tuple #[.agg zeroVer, .int .i64 0, .int .i64 er]) (by simp [results, Tryz.results17, go_sem, y0, y1, y2, y3, y4, y5, y6]) rfl (load_bad ?_ HRE.out)
      ((repeat (first | with_reducible exact Chg.refl _ _ | with_reducible assumption | with_reducible refine Chg.drewN ?_ _ | with_reducible refine Chg.drew ?_ | with_reducible refine Chg.alloc ?_ _ | with_reducible refine Chg.setCell ?_ (by first | (simp; done) | (simp; omega) | (intro h; simp at h; omega)) _)))
  · have h1 : (ec != 0) = true := by simp [hec]
    have h2 : (ec == 0) = false := by simp [hec]
    have hre := HR.out
    rw [if_pos hec] at hre
    have HRE := Lib.hid hre
    clear hre
    go_wp2_with fail
    refine bodyPost_ret (v := .tuple #[.agg zeroVer, .int .i64 0, .int .i64 ec]) (by simp [results, Tryz.results17, go_sem, y0, y1, y2, y3, y4, y5, y6]) rfl (load_bad ?_ HRE.out)
    ((repeat (first | with_reducible exact Chg.refl _ _ | with_reducible assumption | with_reducible refine Chg.drewN ?_ _ | with_reducible refine Chg.drew ?_ | with_reducible refine Chg.alloc ?_ _ | with_reducible refine Chg.setCell ?_ (by first | (simp; done) | (simp; omega) | (intro h; simp at h; omega)) _)))
end Go.Proofs.YtahahginmgidjaaGreatDoor
