/-
  The law's fixed manifest.
  What is there behind a Clean: plain facts. No program's text.
  An argument that is a slice of texts. Plain; no condition.
-/
import Derived.Test.YtahahginmgidjaaGreatDoorZManJ
import Derived.Test.YtahahginmgidjaaGreatDoorZManK
import Derived.Test.YtahahginmgidjaaGreatDoorZMg15
import Derived.Test.YtahahginmgidjaaGreatDoorZMg00
namespace Go.Proofs.YtahahginmgidjaaGreatDoor
open Go.RowKit
set_option linter.unusedVariables false
set_option linter.unusedSimpArgs false

def S3 : VerV := ⟨fun _ => [], 1, 4, 2⟩
def E3 : EditV := ⟨[], [], 1, 9, 5⟩
def F3 : EditV := ⟨[], [], 1, 4, 2⟩
def nm3 : ByteArray := ⟨#[109, 97, 110, 105, 102, 101, 115, 116, 45, 48, 48, 48, 48, 48, 48, 48, 51]⟩
def b31 : List UInt8 := [2, 8, 4, 0, 0]
def b32 : List UInt8 := [2, 18, 10, 0, 0]
theorem puts3 : putE F3 = b31 ∧ putE E3 = b32 := by
  constructor <;> decide +kernel
theorem edit3 : editV b31 = .inl F3 ∧ editV b32 = .inl E3 := by
  constructor <;> rfl
theorem parts3 : partsV S3 = [F3] := rfl
theorem file3 : fileB kindB 3 = nm3 := by decide +kernel
theorem framed3 (E : EditV) (b : List UInt8) (h : putE E = b) (hb : b.length ≤ 100) : framedV 3 [E] = (nm3, ⟨(fraB b).toArray⟩, 0) := by
  unfold framedV
  rw [file3, if_neg (by decide +kernel), if_pos (by simp [fitsB, h]; omega)]
  simp [framesB, h]
def mk1 : DiskV := (startM (startD 1000) 3 S3).2
def mk2 : DiskV := (addM mk1 3 E3).2
theorem start3 : startM (startD 1000) 3 S3 = andV (createM (startD 1000) nm3 ⟨(fraB b31).toArray⟩) fun D1 => andV (syncDirD D1) fun D2 =>
  andV (if hasTx (namesL (startD 1000)) nextB then removeD D2 nextB else (0, D2)) fun D3 =>
  andV (createM D3 nextB (toldB nm3)) fun D4 => andV (renameD D4 nextB curB) syncDirD := by
  unfold startM
  rw [parts3, framed3 F3 b31 puts3.1 (by decide)]
  rfl
theorem add3 : addM mk1 3 E3 = writeM mk1 nm3 ⟨(fraB b32).toArray⟩ := by
  unfold addM
  rw [framed3 E3 b32 puts3.2 (by decide)]
  rfl
theorem mk_res : (startM (startD 1000) 3 S3).1 = 0 ∧ (addM mk1 3 E3).1 = 0 ∧ readD mk2 curB = (toldB nm3, 0) ∧ readD mk2 nm3 = (⟨(fraB b31 ++ fraB b32).toArray⟩, 0) ∧ namesL mk2 = [curB, nm3] := by
  unfold mk2
  rw [add3]
  unfold mk1
  rw [start3]
  refine ⟨?_, ?_, ?_, ?_, ?_⟩ <;> decide +kernel
theorem ok31 : okV VerV.none F3 := by
  refine ⟨⟨by decide, by decide⟩, ⟨by simp [F3], by simp [F3]⟩, ⟨by simp [F3], by simp [F3]⟩, fun i h1 h4 => ?_⟩
  simp [nextV, F3, addTo, kept, VerV.none]
theorem ok32 : okV (nextV VerV.none F3) E3 := by
  refine ⟨⟨by decide, by decide⟩, ⟨by simp [E3], by simp [E3]⟩, ⟨by simp [E3], by simp [E3]⟩, fun i h1 h4 => ?_⟩
  simp [nextV, F3, E3, addTo, kept, VerV.none]
set_option maxRecDepth 100000 in
theorem load3 : loadM mk2 = (nextV (nextV VerV.none F3) E3, 3, 0) := by
  obtain ⟨_, _, h3, h4, _⟩ := mk_res
  have hc : countsV mk2 = (nm3, 3, 0) := by
    unfold countsV
    rw [h3]
    have e : countV (toldB nm3) = (nm3, 3, 0) := by decide +kernel
    exact e
  have ha : allF (fraB b31 ++ fraB b32) = ([b31, b32], 10) := by
    have := all_fras [b31, b32] [] (by decide)
    simpa [frasB, all_nil] using this
  have hb : bodiesV (fraB b31 ++ fraB b32) = (nextV (nextV VerV.none F3) E3, 0) := by
    unfold bodiesV
    rw [ha]
    simp only
    rw [if_neg (by decide), if_neg (by decide), loadGo_yes edit3.1 ok31, loadGo_yes edit3.2 ok32]
    rfl
  unfold loadM
  rw [hc]
  simp only
  rw [h4]
  simp only
  rw [hb]
  rfl
theorem psm_startM {m : Nat} {D : DiskV} (n : Int) (S : VerV) (h : PSm m D) : PSm (m + 10) (startM D n S).2 := by
  unfold startM
  split
  · exact h.by_ (by omega)
  have h1 := psm_make (framedV n (partsV S)).1 (framedV n (partsV S)).2.1 h
  refine psm_and (m := m + 3) (k := 7) h1 ?_
  have h2 := p_bsm_syncdir h1
  refine psm_and (m := m + 3 + 1) (k := 6) h2 ?_
  have h3 : PSm (m + 3 + 1 + 1) (if hasTx (namesL D) nextB then removeD (syncDirD (createM D (framedV n (partsV S)).1 (framedV n (partsV S)).2.1).2).2 nextB else (0, (syncDirD (createM D (framedV n (partsV S)).1 (framedV n (partsV S)).2.1).2).2)).2 := by
    split
    · exact p_bsm_remove _ h2
    · exact h2.by_ (by omega)
  refine psm_and (m := m + 3 + 1 + 1) (k := 5) h3 ?_
  have h4 := psm_make nextB (toldB (framedV n (partsV S)).1) h3
  refine psm_and (m := m + 3 + 1 + 1 + 3) (k := 2) h4 ?_
  have h5 := psm_rename nextB curB h4
  exact psm_and (m := m + 3 + 1 + 1 + 3 + 1) (k := 1) h5 (p_bsm_syncdir h5)
theorem psm_addM {m : Nat} {D : DiskV} (n : Int) (E : EditV) (h : PSm m D) : PSm (m + 2) (addM D n E).2 := by
  unfold addM
  split
  · exact h.by_ (by omega)
  · exact psm_write _ _ h
theorem e3_in (w : World) : EdsIn w [⟨E3, none, 0, 0, none, 0, 0⟩] := fun x hx => by
  rw [List.mem_singleton.1 hx]
  exact ⟨(Lst.nil placeC w).rows, (Lst.nil i64C w).ints, ⟨by simp [In64, E3], by simp [In64, E3], by simp [In64, E3], by simp [E3], by simp [E3], by simp [E3], by simp [E3]⟩⟩
theorem fit3 : EdFit (wholeE S3) := ⟨by simp [In64, S3, wholeE], by simp [In64, S3, wholeE], by simp [In64, S3, wholeE], by simp [S3, wholeE], by simp [S3, wholeE, flat, atLevel], by simp [S3, wholeE, flat, atLevel], by simp [S3, wholeE]⟩
set_option maxRecDepth 100000 in
set_option maxHeartbeats 4000000 in
theorem man_wakes (w : World) (ht : Tab w) (he : ErrOk w) : Calls Tryz.prog 7 #[] w fun e w' => e = .returned (.bool true) ∧ Chg (fun _ => False) w w' := by
  obtain ⟨r1, r2, _, _, r5⟩ := mk_res
  have r3 := load3
  have hnew := st_new 1000 (by omega) w
  have hn5 : (namesL mk2).length = 2 := by rw [r5]; rfl
  have ha5 : mk2.names.length ≤ 1000000 := by have : (namesL mk2).length = mk2.names.length := by simp [namesL]
                                              omega
  have HNEW := Lib.hid hnew
  have R1 := Lib.hid r1
  have R2 := Lib.hid r2
  have R3 := Lib.hid r3
  have R5 := Lib.hid r5
  have HT := Lib.hid ht
  have HE := Lib.hid he
  have HA5 := Lib.hid ha5
  clear hnew r1 r2 r3 r5 ht he ha5
  clear hn5
  go_enter Tryz.func7, Tryz.ntmps7
  go_wp2_with fail
  refine HNEW.out.mono ?_
  rintro e w1 ⟨rfl, hd1⟩
  have hd1 := DY.of hd1
  obtain ⟨d, hd⟩ : ∃ d, w.heap.size + 2 = d := ⟨_, rfl⟩
  rw [hd] at hd1 ⊢
  have hst := ma_start 3 (by omega) (by omega) (.slice none 0 0) (.slice none 0 0) (.slice none 0 0) (.slice none 0 0) S3 d (startD 1000) 0 (by omega) (p_bsm_start 1000) _ w w1 hd1 HT.out (verAt_none w1) (by decide) fit3
  have HST := Lib.hid hst
  clear hst
  clear hd1 hd
  go_wp2_with fail
  refine HST.out.mono ?_
  rintro e w2 ⟨rfl, hd2, _⟩
  rw [R1.out]
  have hc2 := hd2.frame
  have had := ma_add 3 (by omega) (by omega) ⟨E3, none, 0, 0, none, 0, 0⟩ d mk1 10 (by omega) (psm_startM 3 S3 (p_bsm_start 1000)) _ w w2 hd2 HT.out (e3_in w2)
  have HAD := Lib.hid had
  clear had
  clear hd2 hc2
  go_wp2_with fail
  refine HAD.out.mono ?_
  rintro e w3 ⟨rfl, hd3, _⟩
  rw [R2.out]
  have hlo := ma_load d mk2 _ w w3 hd3 HT.out HE.out
  rw [R3.out] at hlo
  unfold LoadPost at hlo
  simp only [show (nextV (nextV VerV.none F3) E3).log = 1 from rfl, show (nextV (nextV VerV.none F3) E3).next = 9 from rfl, show (nextV (nextV VerV.none F3) E3).seq = 5 from rfl] at hlo
  have HLO := Lib.hid hlo
  have HD3 := Lib.hid hd3
  clear hlo hd3
  go_wp2_with fail
  refine HLO.out.mono ?_
  rintro e w4 ⟨a0, a1, a2, a3, n0, n1, n2, n3, c0, c1, c2, c3, _, _, rfl, _, hc4⟩
  obtain ⟨w5, hw5⟩ : ∃ w5, w5 = w4.alloc (.cells #[.slice a0 n0 c0, .slice a1 n1 c1, .slice a2 n2 c2, .slice a3 n3 c3, .int .i64 1, .int .i64 9, .int .i64 5] 29) := ⟨_, rfl⟩
  have hc45 : Chg (fun _ => False) w4 w5 := by rw [hw5]; exact (Chg.refl _ _).alloc _
  have hb5 : Blk w5 w4.heap.size 29 #[.slice a0 n0 c0, .slice a1 n1 c1, .slice a2 n2 c2, .slice a3 n3 c3, .int .i64 1, .int .i64 9, .int .i64 5] := by rw [hw5]; exact Blk.new _ _ _
  have hc35 := hc4.then hc45
  have hli := y_list w d mk2 _ HA5.out (psm_addM 3 E3 (psm_startM 3 S3 (p_bsm_start 1000))).an w5 (HD3.out.same hc35)
  rw [R5.out] at hli
  have HLI := Lib.hid hli
  have HW5 := Lib.hid hw5
  have HB5 := Lib.hid hb5
  have HC35 := Lib.hid hc35
  clear hli hw5 hb5 hc35
  clear hc4 hc45
  go_upto_region 5 with fail
  rw [← HW5.out]
  go_wp2_with fail
  refine HLI.out.mono ?_
  rintro e w6 ⟨v, rfl, hL, _, hc6⟩
  obtain ⟨la, lc, rfl, hlc, _, hr⟩ := hL.form strOk
  obtain ⟨b, rfl, hb, _, x0⟩ := hr [] curB [nm3] rfl
  obtain ⟨b', hbb, _, _, x1⟩ := hr [curB] nm3 [] rfl
  injection hbb with hbb
  injection hbb with hbb
  subst hbb
  have x0 := x0 0 _ rfl
  have x1 := x1 0 _ rfl
  have hb6 := HB5.out.chg hc6 (by simp)
  have y0 := hb6.cell 0
  have y1 := hb6.cell 1
  have y2 := hb6.cell 2
  have y3 := hb6.cell 3
  have y4 := hb6.cell 4
  have y5 := hb6.cell 5
  have y6 := hb6.cell 6
  simp at y0 y1 y2 y3 y4 y5 y6
  have q0 : (curB.toList == [99, 117, 114, 114, 101, 110, 116]) = true := by rw [ByteArray.toList_eq]; rfl
  have q1 : (nm3.toList == [109, 97, 110, 105, 102, 101, 115, 116, 45, 48, 48, 48, 48, 48, 48, 48, 51]) = true := by rw [ByteArray.toList_eq]; rfl
  simp [strC] at x0 x1
  have hc6 := (HD3.out.frame.then HC35.out).then hc6
  have HC6 := Lib.hid hc6
  clear hc6
  clear hr hb6 hL
  go_wp2_with fail
  go_ret
  exact ⟨rfl, HC6.out⟩
end Go.Proofs.YtahahginmgidjaaGreatDoor
namespace Go.Proofs.YtahahginmgidjaaGreatDoor
open Go.RowKit
set_option linter.unusedVariables false
set_option linter.unusedSimpArgs false

/-- A disk that no trap waits on, with few names. -/
structure Calm2 (k : Nat) (D : DiskV) : Prop where
  off : D.off = false
  cut : D.cutL = 0
  full : D.fullL = 0
  few : D.names.length ≤ k
theorem Calm2.by_ {k j : Nat} {D : DiskV} (h : Calm2 k D) (hk : k ≤ j) : Calm2 j D := ⟨h.off, h.cut, h.full, Nat.le_trans h.few hk⟩
theorem trapped_calm2 {k : Nat} {D : DiskV} (h : Calm2 k D) : trapped D = D := by
  obtain ⟨h1, h2, h3, _⟩ := h
  cases D
  simp only at h2 h3
  subst h2 h3
  simp [trapped, spring]
theorem change_calm2 {k : Nat} {D : DiskV} (h : Calm2 k D) (c : Bool) (act : DiskV → DiskV) : changeD D c act = (0, act D) := by
  unfold changeD
  rw [h.cut, h.full, trapped_calm2 h]
  simp [spring]
theorem mem_namesL {D : DiskV} {x : ByteArray} : x ∈ namesL D ↔ ∃ i, (x, i) ∈ D.names := by
  unfold namesL
  rw [List.mem_map]
  constructor
  · rintro ⟨p, hp, rfl⟩; exact ⟨p.2, hp⟩
  · rintro ⟨i, hi⟩; exact ⟨_, hi, rfl⟩
theorem look_names {D : DiskV} {x : ByteArray} : (look D.names x).isSome = true ↔ x ∈ namesL D := by
  rw [mem_namesL]
  cases h : look D.names x with
  | some i => exact ⟨fun _ => ⟨i, look_some h⟩, fun _ => rfl⟩
  | none => exact ⟨(fun e => by cases e), fun ⟨i, hi⟩ => absurd rfl (look_none h _ hi)⟩
theorem names_create {n x : ByteArray} {D : DiskV} : x ∈ namesL (createA n D) ↔ x = n ∨ x ∈ namesL D := by
  rw [mem_namesL, mem_namesL]
  show (∃ i, (x, i) ∈ insN n D.files.length (dropN n D.names)) ↔ _
  constructor
  · rintro ⟨i, hi⟩
    rcases mem_insN.1 hi with e | e
    · injection e with e _; exact .inl e
    · exact .inr ⟨i, (mem_dropN.1 e).1⟩
  · rintro (rfl | ⟨i, hi⟩)
    · exact ⟨_, mem_insN.2 (.inl rfl)⟩
    · by_cases e : x = n
      · subst e; exact ⟨_, mem_insN.2 (.inl rfl)⟩
      · exact ⟨i, mem_insN.2 (.inr (mem_dropN.2 ⟨hi, e⟩))⟩
theorem names_remove {n x : ByteArray} {D : DiskV} : x ∈ namesL (removeA n D) ↔ x ∈ namesL D ∧ x ≠ n := by
  rw [mem_namesL, mem_namesL]
  show (∃ i, (x, i) ∈ dropN n D.names) ↔ _
  constructor
  · rintro ⟨i, hi⟩
    exact ⟨⟨i, (mem_dropN.1 hi).1⟩, (mem_dropN.1 hi).2⟩
  · rintro ⟨⟨i, hi⟩, hn⟩
    exact ⟨i, mem_dropN.2 ⟨hi, hn⟩⟩
theorem createA_len (n : ByteArray) (D : DiskV) : (createA n D).names.length ≤ D.names.length + 1 := by
  show (insN n D.files.length (dropN n D.names)).length ≤ _
  rw [insN_len]
  have := List.length_filter_le (fun p : ByteArray × Nat => decide (p.1 ≠ n)) D.names
  unfold dropN
  omega
theorem removeA_len (n : ByteArray) (D : DiskV) : (removeA n D).names.length ≤ D.names.length := List.length_filter_le (fun p : ByteArray × Nat => decide (p.1 ≠ n)) D.names
/-- Create of a calm disk. -/
theorem create_calm2 {k : Nat} {D : DiskV} (h : Calm2 k D) (hk : k < 4096) (n : ByteArray) :
    Calm2 (k + 1) (createD D n).2 ∧ (∀ x, x ∈ namesL (createD D n).2 ↔ (x = n ∧ goodN n = true) ∨ x ∈ namesL D) ∧ ((createD D n).1 = 0 ↔ goodN n = true ∧ n ∉ namesL D) := by
  have hf := h.few
  unfold createD
  rw [h.off]
  simp only [Bool.false_eq_true, if_false]
  cases hg : goodN n
  · simp only [Bool.not_false, if_true]
    exact ⟨h.by_ (by omega), fun x => by simp, by simp⟩
  · simp only [Bool.not_true, Bool.false_eq_true, if_false]
    cases hl : look D.names n with
    | some i =>
      have hm := look_names.1 (by rw [hl]; rfl : (look D.names n).isSome = true)
      exact ⟨h.by_ (by omega), fun x => ⟨.inr, fun e => e.elim (fun e => by rw [e.1]; exact hm) id⟩, ⟨(fun e => by cases e), fun e => absurd hm e.2⟩⟩
    | none =>
      have hm : n ∉ namesL D := fun e => by
        have := look_names.2 e
        rw [hl] at this
        cases this
      simp only
      rw [if_neg (by omega), change_calm2 h]
      have := createA_len n D
      refine ⟨⟨h.off, h.cut, h.full, by simp only; omega⟩, fun x => ?_, by simp [hm]⟩
      rw [show ((0 : Int), createA n D).2 = createA n D from rfl, names_create]
      simp
/-- Creates, one behind the other. -/
def makeL : List ByteArray → DiskV → DiskV
  | [], D => D
  | n :: r, D => makeL r (createD D n).2
def sX1 : ByteArray := ⟨#[120]⟩
def othL : List ByteArray → DiskV → Nat
  | [], _ => 0
  | n :: r, D => (if (createD D n).1 = 0 ∧ n = sX1 then 1 else 0) + othL r (createD D n).2
theorem make_calm : ∀ (l : List ByteArray) {k : Nat} {D : DiskV}, Calm2 k D → k + l.length ≤ 4096 → Calm2 (k + l.length) (makeL l D) ∧ ∀ x, x ∈ namesL (makeL l D) ↔ (x ∈ l ∧ goodN x = true) ∨ x ∈ namesL D
  | [], k, D, h, _ => ⟨h, fun x => by simp [makeL]⟩
  | n :: r, k, D, h, hk => by
    simp only [List.length_cons] at hk
    obtain ⟨h1, h2, _⟩ := create_calm2 h (by omega) n
    obtain ⟨g1, g2⟩ := make_calm r h1 (by omega)
    refine ⟨g1.by_ (by simp; omega), fun x => ?_⟩
    rw [makeL, g2, h2]
    constructor
    · rintro (⟨a, b⟩ | ⟨rfl, b⟩ | a)
      · exact .inl ⟨List.mem_cons_of_mem _ a, b⟩
      · exact .inl ⟨List.mem_cons_self, b⟩
      · exact .inr a
    · rintro (⟨a, b⟩ | a)
      · rcases List.mem_cons.1 a with rfl | a
        · exact .inr (.inl ⟨rfl, b⟩)
        · exact .inl ⟨a, b⟩
      · exact .inr (.inr a)
theorem oth_none : ∀ (l : List ByteArray) {k : Nat} {D : DiskV}, Calm2 k D → k + l.length ≤ 4096 → sX1 ∈ namesL D → othL l D = 0
  | [], _, _, _, _, _ => rfl
  | n :: r, k, D, h, hk, hm => by
    simp only [List.length_cons] at hk
    obtain ⟨h1, h2, h3⟩ := create_calm2 h (by omega) n
    rw [othL, oth_none r h1 (by omega) ((h2 _).2 (.inr hm)), if_neg]
    rintro ⟨a, rfl⟩
    exact (h3.1 a).2 hm
theorem oth_one : ∀ (l : List ByteArray) {k : Nat} {D : DiskV}, Calm2 k D → k + l.length ≤ 4096 → sX1 ∉ namesL D → sX1 ∈ l → othL l D = 1
  | [], _, _, _, _, _, hl => by cases hl
  | n :: r, k, D, h, hk, hm, hl => by
    simp only [List.length_cons] at hk
    obtain ⟨h1, h2, h3⟩ := create_calm2 h (by omega) n
    rw [othL]
    by_cases e : n = sX1
    · subst e
      have hg : goodN sX1 = true := by decide
      rw [if_pos ⟨h3.2 ⟨hg, hm⟩, rfl⟩, oth_none r h1 (by omega) ((h2 _).2 (.inl ⟨rfl, hg⟩))]
    · rw [if_neg (fun a => e a.2), oth_one r h1 (by omega) (fun a => (h2 _).1 a |>.elim (fun b => e b.1.symm) hm) (by
        rcases List.mem_cons.1 hl with a | a
        · exact absurd a.symm e
        · exact a)]
theorem remove_calm2 {k : Nat} {D : DiskV} (h : Calm2 k D) {n : ByteArray} (hn : n ∈ namesL D) :
    removeD D n = (0, removeA n D) ∧ Calm2 k (removeA n D) := by
  have := look_names.2 hn
  have hf := h.few
  have hl := removeA_len n D
  refine ⟨?_, ⟨h.off, h.cut, h.full, by omega⟩⟩
  unfold removeD
  rw [h.off]
  cases hl : look D.names n with
  | none => rw [hl] at this; cases this
  | some i =>
    simp only [Bool.false_eq_true, if_false]
    rw [change_calm2 h]
theorem syncdir_calm2 {k : Nat} {D : DiskV} (h : Calm2 k D) : syncDirD D = (0, syncDirA D) ∧ Calm2 k (syncDirA D) := by
  refine ⟨?_, ⟨h.off, h.cut, h.full, h.few⟩⟩
  unfold syncDirD
  rw [h.off]
  simp only [Bool.false_eq_true, if_false]
  rw [change_calm2 h]
theorem cleanL_calm (need : ByteArray → Bool) : ∀ (l : List ByteArray) {k : Nat} {D : DiskV} (b : Bool), Calm2 k D → l.Nodup → (∀ x ∈ l, x ∈ namesL D) →
    (cleanL need l D b).1 = 0 ∧ Calm2 k (cleanL need l D b).2 ∧ ∀ x, x ∈ namesL (cleanL need l D b).2 ↔ x ∈ namesL D ∧ (x ∈ l → need x = true)
  | [], k, D, b, h, _, _ => by
    unfold cleanL
    cases b
    · simp only [Bool.false_eq_true, if_false]
      exact ⟨by simp, h, fun x => by simp⟩
    · simp only [if_true]
      obtain ⟨e, h2⟩ := syncdir_calm2 h
      rw [e]
      exact ⟨by simp, h2, fun x => by simp [namesL, syncDirA]⟩
  | n :: r, k, D, b, h, hd, hm => by
    rw [List.nodup_cons] at hd
    rw [cleanL]
    by_cases hn : need n = true
    · rw [if_pos hn]
      obtain ⟨h1, h2, h3⟩ := cleanL_calm need r b h hd.2 fun x hx => hm x (List.mem_cons_of_mem _ hx)
      refine ⟨h1, h2, fun x => ?_⟩
      rw [h3]
      constructor
      · rintro ⟨a, c⟩
        refine ⟨a, fun e => ?_⟩
        rcases List.mem_cons.1 e with rfl | e
        · exact hn
        · exact c e
      · rintro ⟨a, c⟩
        exact ⟨a, fun e => c (List.mem_cons_of_mem _ e)⟩
    · rw [if_neg hn]
      obtain ⟨e, hc⟩ := remove_calm2 h (hm n List.mem_cons_self)
      rw [e]
      simp only [ne_eq, not_true_eq_false, if_false]
      obtain ⟨h1, h2, h3⟩ := cleanL_calm need r true hc hd.2 fun x hx => names_remove.2 ⟨hm x (List.mem_cons_of_mem _ hx), fun e => hd.1 (e ▸ hx)⟩
      refine ⟨h1, h2, fun x => ?_⟩
      rw [h3, names_remove]
      constructor
      · rintro ⟨⟨a, a2⟩, c⟩
        refine ⟨a, fun e => ?_⟩
        rcases List.mem_cons.1 e with e | e
        · exact absurd e a2
        · exact c e
      · rintro ⟨a, c⟩
        refine ⟨⟨a, fun e => ?_⟩, fun e => c (List.mem_cons_of_mem _ e)⟩
        subst e
        exact hn (c List.mem_cons_self)
theorem namesL_nodup {D : DiskV} (h : PAsc D.names) : (namesL D).Nodup := by
  unfold namesL
  rw [List.Nodup, List.pairwise_map]
  refine h.imp fun {a b} hab e => ?_
  have := p_slt_iff.1 hab
  rw [e] at this
  exact absurd this (List.lt_irrefl _)
theorem cleanM_calm (need : ByteArray → Bool) {k : Nat} {D : DiskV} (h : Calm2 k D) (ha : PAsc D.names) :
    (cleanM need D).1 = 0 ∧ Calm2 k (cleanM need D).2 ∧ ∀ x, x ∈ namesL (cleanM need D).2 ↔ x ∈ namesL D ∧ need x = true := by
  obtain ⟨h1, h2, h3⟩ := cleanL_calm need (namesL D) false h (namesL_nodup ha) fun x hx => hx
  refine ⟨h1, h2, fun x => ?_⟩
  rw [cleanM, h3]
  exact ⟨fun ⟨a, b⟩ => ⟨a, b a⟩, fun ⟨a, b⟩ => ⟨a, fun _ => b⟩⟩
def nm7 : ByteArray := ⟨#[109, 97, 110, 105, 102, 101, 115, 116, 45, 48, 48, 48, 48, 48, 48, 48, 55]⟩
theorem need_names (log : Int) (files : List Int) : needM curB 7 log files = true ∧ needM nextB 7 log files = false ∧ needM sX1 7 log files = true ∧ needM nm7 7 log files = true := by
  have no : ∀ x : ByteArray, (numL kindB.data.toList x.data.toList).2 = false → (numL logK.data.toList x.data.toList).2 = false → (numL tableK.data.toList x.data.toList).2 = false → needM x 7 log files = !(x.toList == nextB.toList) := fun x a b c => by
    unfold needM
    rw [a, b, c]
    rfl
  refine ⟨?_, ?_, ?_, ?_⟩
  · rw [no _ (by decide +kernel) (by decide +kernel) (by decide +kernel)]; decide +kernel
  · rw [no _ (by decide +kernel) (by decide +kernel) (by decide +kernel)]; decide +kernel
  · rw [no _ (by decide +kernel) (by decide +kernel) (by decide +kernel)]; decide +kernel
  · unfold needM
    have e : numL kindB.data.toList nm7.data.toList = (7, true) := by decide +kernel
    rw [e]
    rfl
end Go.Proofs.YtahahginmgidjaaGreatDoor
namespace Go.Proofs.YtahahginmgidjaaGreatDoor
open Go.RowKit
set_option linter.unusedVariables false
set_option linter.unusedSimpArgs false

def StrsAt (w : World) (A : Option Addr) (n : Nat) (S : Nat → ByteArray) : Prop := 0 < n → ∃ b off, A = some ⟨b, off, none⟩ ∧ b < w.heap.size ∧ ∀ i, i < n → w.cell? ⟨b, off + i, none⟩ = some (.string (S i))
theorem StrsAt.same {w w' : World} {A : Option Addr} {n : Nat} {S : Nat → ByteArray} (h : StrsAt w A n S) (hc : Chg (fun _ => False) w w') : StrsAt w' A n S := fun h0 => by
  obtain ⟨b, off, e, hb, hr⟩ := h h0
  exact ⟨b, off, e, Nat.lt_of_lt_of_le hb hc.size, fun i hi => (hc.cell (p := ⟨b, _, none⟩) hb (by simp)).trans (hr i hi)⟩
end Go.Proofs.YtahahginmgidjaaGreatDoor
