/-
  The document's reader of patterns: fail, next, take, word, number.
-/
import Derived.Test.YtjloddlkleileaaGreatDoorPatB
import Derived.Test.YtjloddlkleileaaGreatDoorPatN
namespace Go.Proofs.YtjloddlkleileaaGreatDoor
open Go.RowKit
set_option linter.unusedVariables false
set_option linter.unusedSimpArgs false

def QTie (s : ByteArray) (k : Nat) (b : Int) : PSt → Prop
  | .inl j => k = j ∧ b = 0 ∧ j ≤ s.size
  | .inr c => b = c ∧ c ≠ 0
/-- The document's reader of block r: at a place of the text s, or behind a fault. -/
def QRd (w : World) (r : Nat) (s : ByteArray) (st : PSt) : Prop := ∃ (k : Nat) (b p : Int), Blk w r 127 #[.string s, .int .i64 (k : Int), .int .i64 b, .int .i64 p] ∧ QTie s k b st
theorem QRd.chg {w w' : World} {r : Nat} {s : ByteArray} {st : PSt} {S : Nat → Prop} (h : QRd w r s st) (hc : Chg S w w') (hs : ¬ S r) : QRd w' r s st := by
  obtain ⟨k, b, p, hB, ht⟩ := h
  exact ⟨k, b, p, hB.chg hc hs, ht⟩
theorem QRd.lt {w : World} {r : Nat} {s : ByteArray} {st : PSt} (h : QRd w r s st) : r < w.heap.size := by
  obtain ⟨k, b, p, hB, ht⟩ := h
  exact hB.lt
def QPost (w : World) (r : Nat) (s : ByteArray) (v : Value) (st : PSt) (e : Ending) (w' : World) : Prop := e = .returned v ∧ QRd w' r s st ∧ Chg (fun k => k = r) w w'
set_option maxRecDepth 100000 in
set_option maxHeartbeats 2000000 in
theorem rp_fail (r : Nat) (s : ByteArray) (st : PSt) (i c : Int) (hc : c ≠ 0) (w : World) (hR : QRd w r s st) : Calls Tryz.prog 46 #[.pointer (some ⟨r, 0, none⟩), .int .i64 i, .int .i64 c] w (QPost w r s (.tuple #[]) (failS c st)) := by
  obtain ⟨k, b, p, hB, ht⟩ := hR
  have y0 := hB.cell 0
  have y1 := hB.cell 1
  have y2 := hB.cell 2
  have y3 := hB.cell 3
  have f1 := hB.frozen 1
  have f2 := hB.frozen 2
  have f3 := hB.frozen 3
  have hrl := hB.lt
  simp at y0 y1 y2 y3
  cases st with
  | inl j =>
    obtain ⟨rfl, rfl, hj⟩ := ht
    have HB := Lib.hid hB
    have HC := Lib.hid hc
    clear hB hc
    go_enter Tryz.func46, Tryz.ntmps46
    go_wp2_with fail
    go_end0
    refine ⟨rfl, ⟨k, c, i, ?_, rfl, HC.out⟩, by ((repeat (first | with_reducible exact Chg.refl _ _ | with_reducible assumption | with_reducible refine Chg.drewN ?_ _ | with_reducible refine Chg.drew ?_ | with_reducible refine Chg.alloc ?_ _ | with_reducible refine Chg.setCell ?_ (by first | (simp; done) | (simp; omega) | (intro h; simp at h; omega)) _)))⟩
    have := (HB.out.set_ 2 (.int .i64 c)).set_ 3 (.int .i64 i)
    simpa using this
  | inr d =>
    obtain ⟨rfl, hd⟩ := ht
    have hq : (b == 0) = false := by simpa using hd
    have HB := Lib.hid hB
    have HD := Lib.hid hd
    clear hB hd
    go_enter Tryz.func46, Tryz.ntmps46
    go_wp2_with fail
    go_end0
    exact ⟨rfl, ⟨k, b, p, HB.out, rfl, HD.out⟩, Chg.refl _ _⟩
set_option maxRecDepth 100000 in
set_option maxHeartbeats 4000000 in
theorem rp_next (r : Nat) (s : ByteArray) (st : PSt) (a b : UInt8) (x y : Int) (hx : x = (a.toNat : Int)) (hy : y = (b.toNat : Int)) (w : World) (hR : QRd w r s st) : Calls Tryz.prog 42 #[.pointer (some ⟨r, 0, none⟩), .int .u8 x, .int .u8 y] w (QPost w r s (.bool (isS s.data.toList a b st)) st) := by
  obtain ⟨k, bd, p, hB, ht⟩ := hR
  have ht0 := ht
  have y0 := hB.cell 0
  have y1 := hB.cell 1
  have y2 := hB.cell 2
  have y3 := hB.cell 3
  have f1 := hB.frozen 1
  have f2 := hB.frozen 2
  have f3 := hB.frozen 3
  have hrl := hB.lt
  simp at y0 y1 y2 y3
  have HB := Lib.hid hB
  have HT := Lib.hid ht0
  clear hB ht0
  cases st with
  | inr d =>
    obtain ⟨rfl, hd⟩ := ht
    have q0 : (bd == 0) = false := by simpa using hd
    clear hd
    have e : isS s.data.toList a b (.inr bd) = false := rfl
    rw [e]
    clear e
    go_enter Tryz.func42, Tryz.ntmps42
    go_wp2_with fail
    go_quiet (fail)
    go_wp2_with fail
    go_ret
    exact ⟨rfl, ⟨_, _, _, HB.out.drewN _, HT.out⟩, (Chg.refl _ _).drewN _⟩
  | inl j =>
    obtain ⟨rfl, rfl, hj⟩ := ht
    have e : isS s.data.toList a b (.inl k) = isB s.data.toList k a b := rfl
    rw [e]
    clear e
    cases h : isB s.data.toList k a b with
    | true =>
      obtain ⟨h1, h2, h3⟩ := isB_yes h
      rw [← hx] at h2
      rw [← hy] at h3
      have q1 : decide ((k : Int) < (s.size : Int)) = true := by simp; omega
      have q2 : decide (pa_at s k ≥ x) = true := by simp; omega
      have q3 : decide (pa_at s k ≤ y) = true := by simp; omega
      have hix := fun W => pa_sat s k h1 W
      clear h hx hy h2 h3
      go_enter Tryz.func42, Tryz.ntmps42
      go_wp2_with fail
      go_quiet (fail)
      go_wp2_with fail
      go_ret
      exact ⟨rfl, ⟨_, _, _, HB.out.drewN _, HT.out⟩, (Chg.refl _ _).drewN _⟩
    | false =>
      have hn := isB_no h
      rw [← hx, ← hy] at hn
      clear h hx hy
      by_cases h1 : k < s.size
      · have q1 : decide ((k : Int) < (s.size : Int)) = true := by simp; omega
        have hix := fun W => pa_sat s k h1 W
        have hq : decide (pa_at s k ≥ x) = false ∨ (decide (pa_at s k ≥ x) = true ∧ decide (pa_at s k ≤ y) = false) := by
          simp only [decide_eq_true_eq, decide_eq_false_iff_not]
          omega
        clear hn
        rcases hq with q2 | ⟨q2, q3⟩
        · go_enter Tryz.func42, Tryz.ntmps42
          go_wp2_with fail
          go_quiet (fail)
          go_wp2_with fail
          go_ret
          exact ⟨rfl, ⟨_, _, _, HB.out.drewN _, HT.out⟩, (Chg.refl _ _).drewN _⟩
        · go_enter Tryz.func42, Tryz.ntmps42
          go_wp2_with fail
          go_quiet (fail)
          go_wp2_with fail
          go_ret
          exact ⟨rfl, ⟨_, _, _, HB.out.drewN _, HT.out⟩, (Chg.refl _ _).drewN _⟩
      · have q1 : decide ((k : Int) < (s.size : Int)) = false := by simp; omega
        clear hn
        go_enter Tryz.func42, Tryz.ntmps42
        go_wp2_with fail
        go_quiet (fail)
        go_wp2_with fail
        go_ret
        exact ⟨rfl, ⟨_, _, _, HB.out.drewN _, HT.out⟩, (Chg.refl _ _).drewN _⟩
set_option maxRecDepth 100000 in
set_option maxHeartbeats 2000000 in
theorem rp_take (r : Nat) (s : ByteArray) (st : PSt) (a b : UInt8) (x y : Int) (hx : x = (a.toNat : Int)) (hy : y = (b.toNat : Int)) (hs : s.size ≤ 4096) (w : World) (hR : QRd w r s st) : Calls Tryz.prog 43 #[.pointer (some ⟨r, 0, none⟩), .int .u8 x, .int .u8 y] w (QPost w r s (bV (takeS s.data.toList a b st).1) (takeS s.data.toList a b st).2) := by
  have hn := rp_next r s st a b x y hx hy w hR
  have hf := fun i W hW => rp_fail r s st i 20 (by decide) W hW
  have hlt : isS s.data.toList a b st = true → ∃ k, st = .inl k ∧ k < s.size := fun h => by
    cases st with
    | inl k => exact ⟨k, rfl, (isB_yes h).1⟩
    | inr c => cases h
  have he : takeS s.data.toList a b st = if isS s.data.toList a b st then (match st with | .inl k => (s.data.toList.getD k 0, .inl (k + 1)) | .inr c => (0, .inr c)) else (0, failS 20 st) := by
    cases st with
    | inl k => rfl
    | inr c => rfl
  have HN := Lib.hid hn
  have HF := Lib.hid hf
  have HR := Lib.hid hR
  have HE := Lib.hid he
  clear hn hf hR he
  cases hb : isS s.data.toList a b st with
  | true =>
    obtain ⟨k, rfl, hk⟩ := hlt hb
    have he := HE.out
    rw [if_pos hb] at he
    rw [hb] at HN
    clear hb hlt HE
    have HE := Lib.hid he
    clear he
    rw [HE.out]
    have hix := fun W => pa_sat s k hk W
    have hi := IntWalk.i64_in ((k : Int) + 1) (by omega)
    have hi2 := IntWalk.i64_in ((k : Int) + 1 - 1) (by omega)
    have he1 : (k : Int) + 1 - 1 = (k : Int) := by omega
    rw [he1] at hi2
    clear hx hy
    go_enter Tryz.func43, Tryz.ntmps43
    go_wp2_with fail
    refine HN.out.mono ?_
    rintro e w1 ⟨rfl, ⟨k', bd, p, hB, rfl, rfl, hj⟩, h6⟩
    have y0 := hB.cell 0
    have y1 := hB.cell 1
    have y2 := hB.cell 2
    have y3 := hB.cell 3
    have f1 := hB.frozen 1
    have f2 := hB.frozen 2
    have f3 := hB.frozen 3
    have hrl := hB.lt
    simp at y0 y1 y2 y3
    obtain ⟨w2, hw2⟩ : ∃ w2 : World, w2 = w1.setCell ⟨r, 1, none⟩ (.int .i64 ((k' : Int) + 1)) := ⟨_, rfl⟩
    have hB2 : Blk w2 r 127 #[.string s, .int .i64 ((k' : Int) + 1), .int .i64 0, .int .i64 p] := by rw [hw2]; simpa using hB.set_ 1 (.int .i64 ((k' : Int) + 1))
    have hc2 : Chg (fun k => k = r) w w2 := by rw [hw2]; exact h6.setCell (fun _ => rfl) _
    have HB2 := Lib.hid hB2
    have HC2 := Lib.hid hc2
    have HW2 := Lib.hid hw2
    clear hB2 hc2 hw2
    clear hB h6
    go_upto_region 6 with fail
    rw [← HW2.out]
    clear y0 y1 y2 y3 f1 f2 f3 hrl
    have hB := HB2.out
    have y0 := hB.cell 0
    have y1 := hB.cell 1
    have y2 := hB.cell 2
    have y3 := hB.cell 3
    have f1 := hB.frozen 1
    have f2 := hB.frozen 2
    have f3 := hB.frozen 3
    have hrl := hB.lt
    simp at y0 y1 y2 y3
    clear hB
    go_quiet (fail)
    go_wp2_with fail
    go_ret
    exact ⟨rfl, ⟨k' + 1, 0, p, by have := HB2.out.drewN nq; simpa using this, rfl, rfl, by omega⟩, HC2.out.drewN _⟩
  | false =>
    have he := HE.out
    rw [if_neg (by rw [hb]; decide)] at he
    rw [hb] at HN
    clear hb hlt HE
    have HE := Lib.hid he
    clear he
    rw [HE.out]
    clear hx hy
    go_enter Tryz.func43, Tryz.ntmps43
    go_wp2_with fail
    refine HN.out.mono ?_
    rintro e w1 ⟨rfl, hR1, h6⟩
    obtain ⟨k, bd, p, hB, ht⟩ := hR1
    have hR1 : QRd w1 r s st := ⟨k, bd, p, hB, ht⟩
    have y1 := hB.cell 1
    simp at y1
    have HR1 := Lib.hid hR1
    have H6 := Lib.hid h6
    clear hR1 h6
    clear hB ht
    go_wp2_with fail
    refine (HF.out _ w1 HR1.out).mono ?_
    rintro e w2 ⟨rfl, hR2, h7⟩
    have hc := H6.out.then h7
    have HR2 := Lib.hid hR2
    have HC := Lib.hid hc
    clear hR2 hc
    clear h7
    go_wp2_with fail
    go_ret
    exact ⟨rfl, HR2.out, HC.out⟩
/- a call of the reader: contract, number behind -/
set_option maxRecDepth 100000 in
set_option maxHeartbeats 2000000 in
theorem rp_word (r : Nat) (s t : ByteArray) (l : List UInt8) (ht : t.data.toList = l) (st : PSt) (hs : s.size ≤ 4096) (hts : t.size ≤ 4096) (w : World) (hR : QRd w r s st) :
    Calls Tryz.prog 40 #[.pointer (some ⟨r, 0, none⟩), .string t] w (QPost w r s (.tuple #[]) (wordS s.data.toList l st)) := by
  have ho := fun st' a W hW => rp_take r s st' a a _ _ rfl rfl hs W hW
  obtain ⟨F, hF⟩ : ∃ F, F = wordS s.data.toList l st := ⟨_, rfl⟩
  rw [← hF]
  have HO := Lib.hid ho
  have HR := Lib.hid hR
  have HT := Lib.hid ht
  have HF := Lib.hid hF
  clear ho hR ht hF
  go_enter Tryz.func40, Tryz.ntmps40
  go_wp2_with fail
  go_loopw [4] (fun u wr => ∃ (i : Nat) (st' : PSt), u = .int .i64 (i : Int) ∧ i ≤ t.size ∧ F = wordS s.data.toList (t.data.toList.drop i) st' ∧ QRd wr r s st' ∧ Chg (fun k => k = r) w wr) (fun u _ => t.size - (intOf u).toNat)
  case atStart => exact ⟨0, st, rfl, Nat.zero_le _, by rw [List.drop_zero, HT.out]; exact HF.out, HR.out, Chg.refl _ _⟩
  case round =>
    obtain ⟨i, st', rfl, hi, hw, hR, hc⟩ := hrel
    clear HR HF
    have HR := Lib.hid hR
    have HC := Lib.hid hc
    have HW := Lib.hid hw
    clear hR hc hw
    by_cases hlt : i < t.size
    · obtain ⟨c, hd⟩ : ∃ c, t.data.toList.drop i = c :: t.data.toList.drop (i + 1) := by
        have h := hlt
        rw [← pa_len] at h
        exact ⟨_, List.drop_eq_getElem_cons h⟩
      obtain ⟨he, _, _⟩ := pa_at_eq hd
      have hx := fun W => pa_sat t i hlt W
      rw [he] at hx
      have q : decide ((i : Int) < (t.size : Int)) = true := by simp; omega
      have hw2 : F = wordS s.data.toList (t.data.toList.drop (i + 1)) (takeS s.data.toList c c st').2 := by rw [HW.out, hd, wordS]
      have hi1 := IntWalk.i64_in ((i : Int) + 1) (by omega)
      have HW2 := Lib.hid hw2
      clear hw2
      clear HW hd he
      go_wp2_with fail
      go_still_tail 7, (by kernel_rfl)
      change wpList _ _ _ _ _ wr.drew
      generalize hw4 : wr.drew = w4
      have hR4 : QRd w4 r s st' := by rw [← hw4]; exact HR.out.chg ((Chg.refl (fun _ => False) _).drew) (by simp)
      have hc4 : Chg (fun k => k = r) w w4 := by rw [← hw4]; exact HC.out.drew
      clear hw4 HC HR
      have HR := Lib.hid hR4
      have HC := Lib.hid hc4
      clear hR4 hc4
      go_wp2_with fail
      refine (HO.out st' c w4 HR.out).mono ?_
      rintro e w5 ⟨rfl, hR5, h6⟩
      have hc5 := HC.out.then h6
      clear HR HC
      have HR := Lib.hid hR5
      have HC := Lib.hid hc5
      have H6 := Lib.hid h6
      clear hR5 hc5 h6
      go_wp2_with fail
      exact ⟨⟨i + 1, _, by simp, by omega, HW2.out, HR.out, HC.out⟩, by simp [intOf]; omega⟩
    · have q : decide ((i : Int) < (t.size : Int)) = false := by simp; omega
      have hw3 : F = st' := by rw [HW.out, List.drop_eq_nil_of_le (by rw [pa_len]; omega), wordS]
      have HW3 := Lib.hid hw3
      clear hw3
      clear HW
      go_wp2_with fail
      go_end0
      rw [HW3.out]
      exact ⟨rfl, HR.out, HC.out⟩
theorem isS_dig {s : ByteArray} {st : PSt} (h : isS s.data.toList 48 57 st = true) : 48 ≤ ((takeS s.data.toList 48 57 st).1.toNat : Int) ∧ ((takeS s.data.toList 48 57 st).1.toNat : Int) ≤ 57 := by
  cases st with
  | inr c => cases h
  | inl k =>
    have hb : isB s.data.toList k 48 57 = true := h
    have := isB_yes hb
    have e : (takeS s.data.toList 48 57 (.inl k)).1 = s.data.toList.getD k 0 := by simp only [takeS]; rw [if_pos hb]
    rw [e]
    have e48 : (48 : UInt8).toNat = 48 := rfl
    have e57 : (57 : UInt8).toNat = 57 := rfl
    unfold pa_at at this
    omega
set_option maxRecDepth 100000 in
set_option maxHeartbeats 4000000 in
theorem rp_number (r : Nat) (s : ByteArray) (st : PSt) (a : UInt8) (x : Int) (hx : x = (a.toNat : Int)) (ha : 48 ≤ a.toNat) (hs : s.size ≤ 4096) (w : World) (hR : QRd w r s st) :
    Calls Tryz.prog 45 #[.pointer (some ⟨r, 0, none⟩), .int .u8 x] w (QPost w r s (.int .i64 (numberS s.data.toList a st).1) (numberS s.data.toList a st).2) := by
  have ho := rp_take r s st a 57 x 57 hx rfl hs w hR
  have ho2 := fun st' W hW => rp_take r s st' 48 57 48 57 rfl rfl hs W hW
  have hn2 := fun st' W hW => rp_next r s st' 48 57 48 57 rfl rfl W hW
  have hc0 : badS (takeS s.data.toList a 57 st).2 = false → 48 ≤ ((takeS s.data.toList a 57 st).1.toNat : Int) ∧ ((takeS s.data.toList a 57 st).1.toNat : Int) ≤ 57 := fun h => by
    cases st with
    | inr c => cases h
    | inl k =>
      simp only [takeS] at h ⊢
      by_cases hb : isB s.data.toList k a 57 = true
      · rw [if_pos hb]
        have := isB_yes hb
        have e57 : (57 : UInt8).toNat = 57 := rfl
        unfold pa_at at this
        dsimp only
        omega
      · rw [if_neg hb] at h
        cases h
  have he : numberS s.data.toList a st = numberS s.data.toList a st := rfl
  conv at he => rhs; unfold numberS
  obtain ⟨F, hF⟩ : ∃ F, numberS s.data.toList a st = F := ⟨_, rfl⟩
  rw [hF] at he ⊢
  obtain ⟨⟨c, st1⟩, ht⟩ : ∃ t, takeS s.data.toList a 57 st = t := ⟨_, rfl⟩
  rw [ht] at he hc0 ho
  dsimp only at he hc0 ho
  have HO := Lib.hid ho
  have HO2 := Lib.hid ho2
  have HN2 := Lib.hid hn2
  have HE := Lib.hid he
  clear ho ho2 hn2 he
  clear hR hx hF ht
  go_enter Tryz.func45, Tryz.ntmps45
  go_wp2_with fail
  refine HO.out.mono ?_
  rintro e w1 ⟨rfl, ⟨k, b, p, hB, hti⟩, h6⟩
  have hR1 : QRd w1 r s st1 := ⟨k, b, p, hB, hti⟩
  have y2 := hB.cell 2
  simp at y2
  have HR := Lib.hid hR1
  have HC := Lib.hid h6
  clear hR1 h6
  have hbad : (b != 0) = badS st1 := by
    cases st1 with
    | inl j => obtain ⟨_, rfl, _⟩ := hti; rfl
    | inr d => obtain ⟨rfl, hd⟩ := hti; simpa [badS] using hd
  clear hB hti
  cases hst : badS st1 with
  | true =>
    rw [hst] at hbad
    have he := HE.out
    rw [if_pos (.inl hst)] at he
    have HE2 := Lib.hid he
    clear he
    clear hst hc0
    go_wp2_with fail
    go_ret
    rw [HE2.out]
    exact ⟨rfl, HR.out, HC.out⟩
  | false =>
    rw [hst] at hbad
    obtain ⟨hc1, hc2⟩ := hc0 hst
    clear hc0
    by_cases h48 : c = 48
    · have q : ((c.toNat : Int) == 48) = true := by rw [h48]; rfl
      have he := HE.out
      rw [if_pos (.inr h48)] at he
      have HE2 := Lib.hid he
      clear he
      clear hst h48 HO
      have hbv : bV c = .int .u8 (c.toNat : Int) := rfl
      rw [hbv]
      clear hbv
      go_wp2_with fail
      go_ret
      rw [HE2.out]
      exact ⟨rfl, HR.out, HC.out⟩
    · have q : ((c.toNat : Int) == 48) = false := by
        rw [beq_eq_false_iff_ne]
        intro e
        exact h48 (UInt8.toNat_inj.1 (by have : (48 : UInt8).toNat = 48 := rfl; omega))
      have he := HE.out
      rw [if_neg (fun h => h.elim (fun e => by rw [hst] at e; cases e) h48)] at he
      have HE2 := Lib.hid he
      clear he
      clear hst h48 HO HE
      have hbv : bV c = .int .u8 (c.toNat : Int) := rfl
      rw [hbv]
      clear hbv
      go_wp2_with fail
      go_loopw [6, 7] (fun u v wr => ∃ (n : Int) (i : Nat) (st' : PSt), u = .int .i64 n ∧ v = .int .i64 (i : Int) ∧ i ≤ 8 ∧ 0 ≤ n ∧ n < pow10 (i + 1) ∧ F = digitsS s.data.toList (8 - i) n st' ∧ QRd wr r s st' ∧ Chg (fun k => k = r) w wr) (fun _ v _ => 9 - (intOf v).toNat)
      case atStart => exact ⟨(c.toNat : Int) - 48, 0, st1, by first | rfl | simp, by rfl, by omega, by omega, by show _ < (10 : Int); omega, HE2.out, HR.out, HC.out⟩
      case round =>
        clear HR HC HE2 hc1 hc2 y2 hbad q
        obtain ⟨n, i, st', rfl, rfl, hi8, hn0, hn1, hF, hR, hc⟩ := hrel
        have hp9 := pow10_le (d := i + 1) (by omega)
        have hnb : n < 1000000000 := by omega
        have HF := Lib.hid hF
        have HN1 := Lib.hid hn1
        have HR := Lib.hid hR
        have HC := Lib.hid hc
        clear hF hn1 hR hc
        by_cases h8 : i = 8
        · have q : decide ((i : Int) < 8) = false := by simp; omega
          have hf : F = (n, st') := by rw [HF.out, h8]; rfl
          have HF2 := Lib.hid hf
          clear hf
          clear h8
          go_wp2_with fail
          go_ret
          rw [HF2.out]
          exact ⟨rfl, HR.out, HC.out⟩
        · have q : decide ((i : Int) < 8) = true := by simp; omega
          obtain ⟨m, hm⟩ : ∃ m, 8 - i = m + 1 := ⟨7 - i, by omega⟩
          have hi1 := IntWalk.i64_in ((i : Int) + 1) (by omega)
          cases hb : isS s.data.toList 48 57 st' with
          | false =>
            have hf : F = (n, st') := by rw [HF.out, hm, digitsS, if_neg (by rw [hb]; decide)]
            have hn3 := HN2.out st' wr HR.out
            rw [hb] at hn3
            have HF2 := Lib.hid hf
            have HN3 := Lib.hid hn3
            clear hf hn3
            clear hm hb
            go_wp2_with fail
            refine (HN3.out).mono ?_
            rintro e w2 ⟨rfl, hR2, h6⟩
            have hc2 := HC.out.then h6
            clear HR HC
            have HR := Lib.hid hR2
            have HC := Lib.hid hc2
            have H6 := Lib.hid h6
            clear hR2 hc2 h6
            go_wp2_with fail
            go_ret
            rw [HF2.out]
            exact ⟨rfl, HR.out, HC.out⟩
          | true =>
            obtain ⟨d1, d2⟩ := isS_dig hb
            have hf : F = digitsS s.data.toList (8 - (i + 1)) (10 * n + (((takeS s.data.toList 48 57 st').1.toNat : Int) - 48)) (takeS s.data.toList 48 57 st').2 := by rw [HF.out, hm, digitsS, if_pos hb, show 8 - (i + 1) = m by omega]
            have hn3 := HN2.out st' wr HR.out
            rw [hb] at hn3
            have hlt : 10 * n + (((takeS s.data.toList 48 57 st').1.toNat : Int) - 48) < pow10 (i + 1 + 1) := by rw [pow10_succ]; have := HN1.out; omega
            obtain ⟨⟨c2, st2⟩, ht⟩ : ∃ t, takeS s.data.toList 48 57 st' = t := ⟨_, rfl⟩
            have ho3 := HO2.out st'
            rw [ht] at ho3 hf hlt d1 d2
            dsimp only at ho3 hf hlt d1 d2
            have HF2 := Lib.hid hf
            have HN3 := Lib.hid hn3
            have HLT := Lib.hid hlt
            have HO3 := Lib.hid ho3
            clear hf hn3 hlt ho3
            clear hm hb ht hp9
            go_wp2_with fail
            refine (HN3.out).mono ?_
            rintro e w2 ⟨rfl, hR2, h6⟩
            have hc2 := HC.out.then h6
            clear HR HC
            have HR := Lib.hid hR2
            have HC := Lib.hid hc2
            have H6 := Lib.hid h6
            clear hR2 hc2 h6
            go_wp2_with fail
            refine (HO3.out w2 HR.out).mono ?_
            rintro e w3 ⟨rfl, hR3, h6⟩
            have hc3 := HC.out.then h6
            clear HR HC
            have HR := Lib.hid hR3
            have HC := Lib.hid hc3
            have H6 := Lib.hid h6
            clear hR3 hc3 h6
            have hbv : bV c2 = .int .u8 (c2.toNat : Int) := rfl
            rw [hbv]
            clear hbv
            go_wp2_with fail
            exact ⟨⟨_, i + 1, st2, rfl, by simp, by omega, by omega, HLT.out, HF2.out, HR.out, HC.out⟩, by simp [intOf]; omega⟩
end Go.Proofs.YtjloddlkleileaaGreatDoor
