/-
  The document's disk: New, Read, Part, Cut, Break, and what On does.
-/
import Derived.Test.YtlcggocfkanblaaRdF
import Derived.Test.YtlcggocfkanblaaDiskZc
namespace Go.Proofs.Ytlcggocfkanblaa
open Go.RowKit
set_option linter.unusedVariables false
set_option linter.unusedSimpArgs false

set_option maxRecDepth 100000 in
theorem rd_new (room : Int) (hr : room ≤ 9223372036854775807) (w : World) :
    Calls Try.prog 25 #[.int .i64 room] w fun e w' => e = .returned (.pointer (some ⟨w.heap.size, 0, none⟩)) ∧ RAt w' w.heap.size (startD room) (fun k => k = w.heap.size) ∧ Chg (fun _ => False) w w' ∧ w.heap.size < w'.heap.size := by
  have hfin : ∀ m, m = max 0 room → RAt (w.alloc (.cells #[.int .i64 m, .slice none 0 0, .slice none 0 0, .slice none 0 0, .slice none 0 0, .bool false, .int .i64 0, .int .i64 0, .slice none 0 0, .int .i64 0] 84)) w.heap.size (startD room) (fun k => k = w.heap.size) := by
    rintro m rfl
    refine ⟨⟨NamesOk.nil _, NamesOk.nil _, by simp [startD], by simp [startD], by simp only [startD]; omega, by simp [startD], by simp [startD], by simp [startD], by simp [startD]⟩,
      ⟨.slice none 0 0, .slice none 0 0, .slice none 0 0, .slice none 0 0, .slice none 0 0, 0, [], []⟩, ⟨Blk.new w _ _, ⟨Own.nil _ _ _, Own.nil _ _ _, Own.nil _ _ _, ⟨Own.nil _ _ _, by simp [startD]⟩, Own.nil _ _ _⟩, by simp, ?_, ?_⟩, by intro h; simp [startD] at h⟩
    · rintro k (e | e | e | e | e | ⟨j, e⟩ | e)
      · exact e
      · simp [Value.ownBlock] at e
      · simp [Value.ownBlock] at e
      · simp [Value.ownBlock] at e
      · simp [Value.ownBlock] at e
      · simp [blockAt] at e
      · simp [Value.ownBlock] at e
    · rintro k rfl
      simp
  have HF := Lib.hid hfin
  clear hfin
  by_cases h : room < 0
  · go_enter Try.func25, Try.ntmps25
    go_wp2_with fail
    go_ret
    exact ⟨rfl, HF.out 0 (by omega), by ((repeat (first | exact Chg.refl _ _ | assumption | refine Chg.drewN ?_ _ | refine Chg.drew ?_ | refine Chg.alloc ?_ _ | refine Chg.setCell ?_ (by simp) _))), by simp⟩
  · go_enter Try.func25, Try.ntmps25
    go_wp2_with fail
    go_ret
    exact ⟨rfl, HF.out room (by omega), by ((repeat (first | exact Chg.refl _ _ | assumption | refine Chg.drewN ?_ _ | refine Chg.drew ?_ | refine Chg.alloc ?_ _ | refine Chg.setCell ?_ (by simp) _))), by simp⟩
section
variable (r : Nat) (D : DiskV) (M : Nat → Prop) (n : ByteArray) (w : World) (h : RAt w r D M)
include h
set_option maxRecDepth 100000 in
set_option maxHeartbeats 4000000 in
theorem rd_read : Calls Try.prog 52 #[.pointer (some ⟨r, 0, none⟩), .string n] w fun e w' => e = .returned (.tuple #[.string (readD D n).1, .int .i64 (readD D n).2]) ∧ Chg (fun _ => False) w w' := by
  obtain ⟨hok, y, hin, _⟩ := h
  obtain ⟨_, c1, c2, _, _, c5, _⟩ := rin_cells hin
  have hfind := fun W hW => rd_find (ofNames D.names) n y.nv W (hin.parts.names.same (w' := W) hW)
  rw [findN_eq] at hfind
  obtain ⟨fa, fc, hfv, _, hfn, hfread⟩ := rfl_form hin.parts.files
  rw [hfv] at c1
  unfold readD
  cases ho : D.off with
  | true =>
    rw [ho] at c5
    clear hin hfind hok hfread hfv ho
    go_enter Try.func52, Try.ntmps52
    go_wp2_with fail
    go_ret2
    exact ⟨rfl, Chg.refl _ _⟩
  | false =>
    rw [ho] at c5
    cases hk : look D.names n with
    | none =>
      rw [hk] at hfind
      have HF := Lib.hid hfind
      clear hin hfind hok hfread hfv hk ho
      generalize y.nv = nv at *
      go_enter Try.func52, Try.ntmps52
      go_wp2_with fail
      refine (HF.out _ (Chg.refl _ _)).mono ?_
      rintro e w' ⟨rfl, m, rfl⟩
      go_wp2_with fail
      go_ret2
      exact ⟨rfl, by ((repeat (first | exact Chg.refl _ _ | assumption | refine Chg.drewN ?_ _ | refine Chg.drew ?_ | refine Chg.alloc ?_ _ | refine Chg.setCell ?_ (by simp) _)))⟩
    | some i =>
      rw [hk] at hfind
      have hi := hok.names.lt _ (look_some hk)
      obtain ⟨fb, rfl, hfb, _, z0, _⟩ := hfread i hi
      have hdo : dataOf D i = D.files[i].data := by unfold dataOf; rw [List.getElem?_eq_getElem hi]
      simp only [Bool.false_eq_true, if_false, hdo]
      have hi1 : (i : Int) < (D.files.length : Int) := by have : i < D.files.length := hi; omega
      have hi0 : (0 : Int) ≤ (i : Int) := by omega
      have HF := Lib.hid hfind
      generalize D.files[i].data = s at *
      clear hin hfind hok hfread hfv hk ho hdo
      generalize y.nv = nv at *
      go_enter Try.func52, Try.ntmps52
      go_wp2_with fail
      refine (HF.out _ (Chg.refl _ _)).mono ?_
      rintro e w' ⟨rfl, m, rfl⟩
      go_wp2_with fail
      go_ret2
      exact ⟨rfl, by ((repeat (first | exact Chg.refl _ _ | assumption | refine Chg.drewN ?_ _ | refine Chg.drew ?_ | refine Chg.alloc ?_ _ | refine Chg.setCell ?_ (by simp) _)))⟩
set_option maxRecDepth 100000 in
set_option maxHeartbeats 4000000 in
theorem rd_part (p k : Int) (hp1 : -9223372036854775808 ≤ p) (hp2 : p ≤ 9223372036854775807) (hk1 : -9223372036854775808 ≤ k) (hk2 : k ≤ 9223372036854775807) :
    Calls Try.prog 54 #[.pointer (some ⟨r, 0, none⟩), .string n, .int .i64 p, .int .i64 k] w fun e w' => e = .returned (.tuple #[.string (partD D n p k).1, .int .i64 (partD D n p k).2]) ∧ Chg (fun _ => False) w w' := by
  have hread := rd_read r D M n w h
  have hok := h.1
  unfold readD at hread
  unfold partD
  cases ho : D.off with
  | true =>
    rw [ho] at hread
    have HR := Lib.hid hread
    clear hread h hok ho
    go_enter Try.func54, Try.ntmps54
    go_wp2_with fail
    refine HR.out.mono ?_
    rintro e w1 ⟨rfl, hc⟩
    go_wp2_with fail
    go_ret2
    exact ⟨rfl, hc⟩
  | false =>
    rw [ho] at hread
    cases hk : look D.names n with
    | none =>
      rw [hk] at hread
      have HR := Lib.hid hread
      clear hread h hok ho hk
      go_enter Try.func54, Try.ntmps54
      go_wp2_with fail
      refine HR.out.mono ?_
      rintro e w1 ⟨rfl, hc⟩
      go_wp2_with fail
      go_ret2
      exact ⟨rfl, hc⟩
    | some i =>
      rw [hk] at hread
      have hi := hok.names.lt _ (look_some hk)
      have hsz : D.files[i].data.size ≤ 1048576 := (hok.file _ (List.getElem_mem hi)).2
      have hdo : dataOf D i = D.files[i].data := by unfold dataOf; rw [List.getElem?_eq_getElem hi]
      simp only [Bool.false_eq_true, if_false, hdo] at hread ⊢
      have HR := Lib.hid hread
      generalize D.files[i].data = s at *
      clear hread h hok ho hk hdo hi
      by_cases hbad : partBad s p k
      · rw [if_pos hbad]
        unfold partBad at hbad
        go_enter Try.func54, Try.ntmps54
        go_wp2_with fail
        refine HR.out.mono ?_
        rintro e w1 ⟨rfl, hc⟩
        have HC := Lib.hid hc
        clear hc
        by_cases b1 : p < 0
        · clear hbad
          go_wp2_with fail
          go_ret2
          exact ⟨rfl, HC.out⟩
        · by_cases b2 : k < 0
          · clear hbad
            go_wp2_with fail
            go_ret2
            exact ⟨rfl, HC.out⟩
          · by_cases b3 : (s.size : Int) < p
            · clear hbad
              go_wp2_with fail
              go_ret2
              exact ⟨rfl, HC.out⟩
            · have b4 : (s.size : Int) - p < k := by omega
              clear hbad
              go_wp2_with fail
              go_ret2
              exact ⟨rfl, HC.out⟩
      · rw [if_neg hbad]
        unfold partBad at hbad
        have b1 : 0 ≤ p := by omega
        have b2 : 0 ≤ k := by omega
        have b3 : p ≤ (s.size : Int) := by omega
        have b4 : k ≤ (s.size : Int) - p := by omega
        have b5 : p + k ≤ (s.size : Int) := by omega
        have b6 : p ≤ p + k := by omega
        have b7 : 0 ≤ p + k := by omega
        clear hbad
        go_enter Try.func54, Try.ntmps54
        go_wp2_with fail
        refine HR.out.mono ?_
        rintro e w1 ⟨rfl, hc⟩
        have HC := Lib.hid hc
        clear hc
        go_wp2_with fail
        go_ret2
        exact ⟨rfl, HC.out⟩
set_option maxRecDepth 100000 in
theorem rd_break (k : Int) (hk : k ≤ 9223372036854775807) : Calls Try.prog 57 #[.pointer (some ⟨r, 0, none⟩), .int .i64 k] w fun e w' => e = .returned (.tuple #[]) ∧ RPost w r M (breakD D k) w' := by
  obtain ⟨hok, y, hin, hce⟩ := h
  obtain ⟨_, _, _, _, _, _, _, _, _, c9⟩ := rin_cells hin
  have f9 := hin.blk.frozen 9
  have hfin : ∀ m, m = max 1 k → RPost w r M (breakD D k) (w.setCell ⟨r, 9, none⟩ (.int .i64 m)) := by
    rintro m rfl
    have hset : Chg (fun k => k = r) w (w.setCell ⟨r, 9, none⟩ (.int .i64 (max 1 k))) := Chg.setOwn (Chg.refl _ _) _ _
    have hb := hin.blk.set_ 9 (.int .i64 (max 1 k))
    have hr := hin.setR (D' := breakD D k) hset (by simpa [rCells, breakD] using hb) rfl rfl rfl rfl
    exact RPost.same ⟨break_ok hok hk, y, hr, hce⟩ hin.lt (hset.mono fun k _ e => by rw [e]; exact hin.mine r (.inl rfl))
  have HF := Lib.hid hfin
  clear hin hfin hok
  by_cases h : k < 1
  · go_enter Try.func57, Try.ntmps57
    go_wp2_with fail
    first | go_end0 | refine bodyPost_ret (results_none rfl _ _ _) rfl ?_
    exact ⟨rfl, HF.out _ (by omega)⟩
  · go_enter Try.func57, Try.ntmps57
    go_wp2_with fail
    first | go_end0 | refine bodyPost_ret (results_none rfl _ _ _) rfl ?_
    exact ⟨rfl, HF.out _ (by omega)⟩
/-- The bytes of a cut lie in a row that is handed over. -/
theorem rd_cut (k names : Int) (bytes : List Int) (bv : Value) (hk : k ≤ 9223372036854775807) (hn1 : -9223372036854775808 ≤ names) (hn2 : names ≤ 9223372036854775807) (hbb : ∀ x ∈ bytes, -9223372036854775808 ≤ x ∧ x ≤ 9223372036854775807)
    (hb : Own w 3 1 bv bytes.length (intCells bytes)) (hbM : ∀ k, bv.ownBlock = some k → M k) : Calls Try.prog 56 #[.pointer (some ⟨r, 0, none⟩), .int .i64 k, .int .i64 names, bv] w fun e w' => e = .returned (.tuple #[]) ∧ RPost w r M (cutD D k names bytes) w' := by
  obtain ⟨hok, y, hin, hce⟩ := h
  obtain ⟨_, _, _, _, _, _, c6, c7, c8, _⟩ := rin_cells hin
  have f6 := hin.blk.frozen 6
  have f7 := hin.blk.frozen 7
  have f8 := hin.blk.frozen 8
  obtain ⟨ba, bc, rfl, _, _, _⟩ := hb.reads
  have hfin : ∀ m W, m = max 1 k → W = ((w.setCell ⟨r, 6, none⟩ (.int .i64 m)).setCell ⟨r, 7, none⟩ (.int .i64 names)).setCell ⟨r, 8, none⟩ (.slice ba bytes.length bc) → RPost w r M (cutD D k names bytes) W := by
    rintro m W rfl hW
    have hset : Chg (fun k => k = r) w W := by rw [hW]; exact Chg.setOwn (Chg.setOwn (Chg.setOwn (Chg.refl _ _) _ _) _ _) _ _
    have hbl := ((hin.blk.set_ 6 (.int .i64 (max 1 k))).set_ 7 (.int .i64 names)).set_ 8 (.slice ba bytes.length bc)
    rw [← hW] at hbl
    have hp := hin.own hset
    have hcb := hb.chg hset (fun k hk e => by
      obtain ⟨cs, hb2⟩ := hb.typed hk
      exact hb2.ne_ hin.blk (by decide) e)
    have hr : RIn W r (cutD D k names bytes) { y with cn := names, cv := .slice ba bytes.length bc, cb := bytes } M := by
      refine ⟨by simpa [rCells, cutD] using hbl, ⟨hp.files, hp.names, hp.lasts, hp.queue, hcb⟩, ⟨⟨hn1, hn2⟩, hbb⟩, ?_, fun k hk => Nat.lt_of_lt_of_le (hin.lt k hk) hset.size⟩
      have hm := hin.mine
      rintro k (e | e | e | e | e | e | e)
      · exact hm k (.inl e)
      · exact hm k (.inr (.inl e))
      · exact hm k (.inr (.inr (.inl e)))
      · exact hm k (.inr (.inr (.inr (.inl e))))
      · exact hm k (.inr (.inr (.inr (.inr (.inl e)))))
      · exact hm k (.inr (.inr (.inr (.inr (.inr (.inl e))))))
      · exact hbM k e
    exact RPost.same ⟨cut_ok hok hk hn1 hn2 hbb, _, hr, fun _ => ⟨rfl, rfl⟩⟩ hin.lt (hset.mono fun k _ e => by rw [e]; exact hin.mine r (.inl rfl))
  have HF := Lib.hid hfin
  clear hin hfin hok hb hbM hce
  generalize y.cv = cv at *
  generalize y.cn = cn at *
  by_cases h : k < 1
  · go_enter Try.func56, Try.ntmps56
    go_wp2_with fail
    first | go_end0 | refine bodyPost_ret (results_none rfl _ _ _) rfl ?_
    exact ⟨rfl, HF.out 1 _ (by omega) rfl⟩
  · go_enter Try.func56, Try.ntmps56
    go_wp2_with fail
    first | go_end0 | refine bodyPost_ret (results_none rfl _ _ _) rfl ?_
    exact ⟨rfl, HF.out k _ (by omega) rfl⟩
end
end Go.Proofs.Ytlcggocfkanblaa
