/-
  Bounds on a disk behind so many acts, and that its names stand in order. Plain.
  The document's disk: New, Read, Part, Cut, Break, and what On does.
-/
import Derived.Test.YtjfbcjmnjlehaaaGreatDoorZRdG
import Derived.Test.YtjfbcjmnjlehaaaGreatDoorZDiskZc
import Derived.Test.YtjfbcjmnjlehaaaGreatDoorZRdF
namespace Go.Proofs.YtjfbcjmnjlehaaaGreatDoor
open Go.RowKit
set_option linter.unusedVariables false
set_option linter.unusedSimpArgs false

def Asc (l : Names) : Prop := l.Pairwise fun a b => slt a.1 b.1 = true
theorem slt_iff {a b : ByteArray} : slt a b = true ↔ a.data.toList < b.data.toList := by simp [slt]
theorem slt_trans {a b c : ByteArray} (h : slt a b = true) (h2 : slt b c = true) : slt a c = true := slt_iff.2 (List.lt_trans (slt_iff.1 h) (slt_iff.1 h2))
theorem slt_total {a b : ByteArray} (h : ¬ slt a b = true) (hne : a ≠ b) : slt b a = true := by
  rw [slt_iff] at h ⊢
  have h1 : b.data.toList ≤ a.data.toList := List.not_lt.1 h
  by_cases hn : b.data.toList < a.data.toList
  · exact hn
  · have h2 : a.data.toList ≤ b.data.toList := List.not_lt.1 hn
    have e := List.le_antisymm h2 h1
    exact absurd (by cases a with | mk x => cases b with | mk y => simp only [ByteArray.mk.injEq]; exact Array.toList_inj.1 e) hne
theorem Asc.drop {l : Names} (h : Asc l) (n : ByteArray) : Asc (dropN n l) := h.sublist List.filter_sublist
theorem Asc.ins {n : ByteArray} {i : Nat} : ∀ {l : Names}, Asc l → (∀ p ∈ l, p.1 ≠ n) → Asc (insN n i l)
  | [], _, _ => by simp [insN, Asc]
  | q :: r, h, hn => by
    unfold Asc at h
    rw [List.pairwise_cons] at h
    unfold insN
    split
    · rename_i hs
      unfold Asc
      rw [List.pairwise_cons, List.pairwise_cons]
      refine ⟨fun p hp => ?_, h⟩
      rcases List.mem_cons.1 hp with rfl | hp
      · exact hs
      · exact slt_trans hs (h.1 p hp)
    · rename_i hs
      unfold Asc
      rw [List.pairwise_cons]
      refine ⟨fun p hp => ?_, Asc.ins (l := r) h.2 fun p hp => hn p (by simp [hp])⟩
      rcases mem_insN.1 hp with rfl | hp
      · exact slt_total hs (hn q (by simp)).symm
      · exact h.1 p hp
theorem Asc.doOne {l : Names} (h : Asc l) (c : ByteArray × Option Nat) : Asc (doOne l c) := by
  unfold Go.Proofs.YtjfbcjmnjlehaaaGreatDoor.doOne
  cases c.2 with
  | none => exact h.drop _
  | some i => exact (h.drop _).ins fun p hp => (mem_dropN.1 hp).2
theorem Asc.doStep : ∀ {s : StepV} {l : Names}, Asc l → Asc (doStep l s)
  | [], l, h => h
  | c :: s, l, h => Asc.doStep (s := s) (h.doOne c)
theorem Asc.doAll : ∀ {q : List StepV} {l : Names}, Asc l → Asc (doAll l q)
  | [], l, h => h
  | s :: q, l, h => Asc.doAll (q := q) h.doStep

/-- Behind n acts. -/
structure BSm (N : Nat) (D : DiskV) : Prop where
  f : D.files.length ≤ N
  n : D.names.length ≤ 2 * N
  l : D.lasts.length + 2 * D.queue.length ≤ 2 * N
  s : ∀ s ∈ D.queue, s.length ≤ 2
  an : Asc D.names
  al : Asc D.lasts
section
variable {n : Nat} {D : DiskV}
theorem BSm.rsm (h : BSm n D) (hn : n ≤ 1000) : RSm D := ⟨by have := h.l; omega, by have := h.f; omega, by have := h.n; omega, by have := h.l; omega, h.s⟩
theorem BSm.up (h : BSm n D) : BSm (n + 1) D := ⟨by have := h.f; omega, by have := h.n; omega, by have := h.l; omega, h.s, h.an, h.al⟩
theorem bsm_start (room : Int) : BSm 0 (startD room) := ⟨by simp [startD], by simp [startD], by simp [startD], by simp [startD], List.Pairwise.nil, List.Pairwise.nil⟩
theorem bsm_trap (h : BSm n D) : BSm n (trapped D) := ⟨h.f, h.n, h.l, h.s, h.an, h.al⟩
theorem bsm_fail (h : BSm n D) (names : Int) (bytes : List Int) : BSm n (failD D names bytes) := by
  have hl := doAll_len (D.queue.take (restI names (D.queue.length + 1)).toNat) (fun s hs => h.s s (List.mem_of_mem_take hs)) D.lasts
  have ht : (D.queue.take (restI names (D.queue.length + 1)).toNat).length ≤ D.queue.length := by rw [List.length_take]; omega
  have h1 := h.l
  refine ⟨by simp [failD]; exact h.f, ?_, ?_, by simp [failD], Asc.doAll h.al, Asc.doAll h.al⟩
  · show (doAll D.lasts _).length ≤ _
    omega
  · show (doAll D.lasts _).length + 2 * ([] : List StepV).length ≤ _
    simp only [List.length_nil]
    omega
theorem bsm_off (h : BSm n D) (b : Bool) : BSm n { D with off := b } := ⟨h.f, h.n, h.l, h.s, h.an, h.al⟩
theorem bsm_change {act : DiskV → DiskV} (h : BSm n D) (ha : BSm (n + 1) (act (trapped D))) (c : Bool) : BSm (n + 1) (changeD D c act).2 := by
  unfold changeD
  split
  · refine bsm_off (bsm_fail ?_ _ _) true
    cases c
    · exact (bsm_trap h).up
    · exact ha
  · split
    · exact (bsm_trap h).up
    · exact ha
theorem bsm_rename1 (s : StepV) (hs : s.length ≤ 2) (h : BSm n D) : BSm (n + 1) (rename1 s D) := by
  have h1 := doStep_len s D.names
  have h2 := h.n
  have h3 := h.l
  refine ⟨by have := h.f; show D.files.length ≤ _; omega, ?_, ?_, fun t ht => ?_, h.an.doStep, h.al⟩
  · show (doStep D.names s).length ≤ _
    omega
  · show D.lasts.length + 2 * (D.queue ++ [s]).length ≤ _
    simp
    omega
  · rcases List.mem_append.1 ht with ht | ht
    · exact h.s t ht
    · simp at ht; subst ht; exact hs
theorem bsm_setF (h : BSm n D) (i : Nat) (g : FileV → FileV) : BSm n (setF D i g) := ⟨by simp [setF]; exact h.f, h.n, h.l, h.s, h.an, h.al⟩
variable (a b : ByteArray)
theorem bsm_create (h : BSm n D) : BSm (n + 1) (createD D a).2 := by
  unfold createD
  split
  · exact h.up
  · split
    · exact h.up
    · split
      · exact h.up
      · split
        · exact h.up
        · refine bsm_change h ?_ true
          have ht := bsm_trap h
          have h1 := doStep_len [(a, some (trapped D).files.length)] (trapped D).names
          simp only [List.length_singleton] at h1
          have h2 := h.n
          have h3 := h.l
          refine ⟨by show ((trapped D).files ++ [_]).length ≤ _; simp; exact h.f, ?_, ?_, fun t ht2 => ?_, ht.an.doStep, ht.al⟩
          · show (doStep (trapped D).names _).length ≤ _
            have : (trapped D).names.length = D.names.length := rfl
            omega
          · show (trapped D).lasts.length + 2 * ((trapped D).queue ++ [_]).length ≤ _
            have e1 : (trapped D).lasts.length = D.lasts.length := rfl
            have e2 : (trapped D).queue.length = D.queue.length := rfl
            simp
            omega
          · have ht3 : t ∈ (trapped D).queue ++ [[(a, some (trapped D).files.length)]] := ht2
            rcases List.mem_append.1 ht3 with ht3 | ht3
            · exact h.s t ht3
            · simp at ht3; subst ht3; simp
theorem bsm_append (h : BSm n D) : BSm (n + 1) (appendD D a b).2 := by
  unfold appendD
  split
  · exact h.up
  · split
    · split
      · exact h.up
      · exact bsm_change h (bsm_setF (bsm_trap h) _ _).up true
    · exact h.up
theorem bsm_sync (h : BSm n D) : BSm (n + 1) (syncD D a).2 := by
  unfold syncD
  split
  · exact h.up
  · split
    · exact bsm_change h (bsm_setF (bsm_trap h) _ _).up false
    · exact h.up
theorem bsm_syncdir (h : BSm n D) : BSm (n + 1) (syncDirD D).2 := by
  unfold syncDirD
  split
  · exact h.up
  · refine bsm_change h ?_ false
    have ht := bsm_trap h
    exact ⟨by have := ht.f; show (trapped D).files.length ≤ _; omega, by have := ht.n; show (trapped D).names.length ≤ _; omega, by have := ht.n; show (trapped D).names.length + 2 * ([] : List StepV).length ≤ _; simp only [List.length_nil]; omega, by simp [syncDirA], ht.an, ht.an⟩
theorem bsm_rename (h : BSm n D) : BSm (n + 1) (renameD D a b).2 := by
  unfold renameD
  split
  · exact h.up
  · split
    · split
      · refine bsm_change h ?_ true
        unfold renameA
        split
        · exact (bsm_trap h).up
        · exact bsm_rename1 _ (by simp) (bsm_trap h)
      · exact h.up
    · exact h.up
theorem bsm_remove (h : BSm n D) : BSm (n + 1) (removeD D a).2 := by
  unfold removeD
  split
  · exact h.up
  · split
    · exact bsm_change h (bsm_rename1 _ (by simp) (bsm_trap h)) true
    · exact h.up
theorem bsm_crash (h : BSm n D) (names : Int) (bytes : List Int) : BSm (n + 1) (crashD D names bytes) := (bsm_off (bsm_fail h names bytes) false).up
theorem bsm_cut (h : BSm n D) (k names : Int) (bytes : List Int) : BSm (n + 1) (cutD D k names bytes) := BSm.up ⟨h.f, h.n, h.l, h.s, h.an, h.al⟩
theorem bsm_break (h : BSm n D) (k : Int) : BSm (n + 1) (breakD D k) := BSm.up ⟨h.f, h.n, h.l, h.s, h.an, h.al⟩
theorem bsm_on (h : BSm n D) : BSm (n + 1) (onD D) := BSm.up ⟨h.f, h.n, h.l, h.s, h.an, h.al⟩
theorem bsm_spoil (h : BSm n D) (k : Int) : BSm (n + 1) (spoilD D a k) := by
  unfold spoilD
  split
  · split
    · exact h.up
    · exact (bsm_setF h _ _).up
  · exact h.up
end
end Go.Proofs.YtjfbcjmnjlehaaaGreatDoor
namespace Go.Proofs.YtjfbcjmnjlehaaaGreatDoor
open Go.RowKit
set_option linter.unusedVariables false
set_option linter.unusedSimpArgs false

set_option maxRecDepth 100000 in
theorem rd_new (room : Int) (hr : room ≤ 9223372036854775807) (w : World) :
    Calls Tryz.prog 12 #[.int .i64 room] w fun e w' => e = .returned (.pointer (some ⟨w.heap.size, 0, none⟩)) ∧ RAt w' w.heap.size (startD room) (fun k => k = w.heap.size) ∧ Chg (fun _ => False) w w' ∧ w.heap.size < w'.heap.size := by
  have hfin : ∀ m, m = max 0 room → RAt (w.alloc (.cells #[.int .i64 m, .slice none 0 0, .slice none 0 0, .slice none 0 0, .slice none 0 0, .bool false, .int .i64 0, .int .i64 0, .slice none 0 0, .int .i64 0] 72)) w.heap.size (startD room) (fun k => k = w.heap.size) := by
    rintro m rfl
    refine ⟨⟨NamesOk.nil _, NamesOk.nil _, by simp [startD], by simp [startD], by simp only [startD]; omega, by simp [startD], by simp [startD], by simp [startD], by simp [startD]⟩,
      ⟨.slice none 0 0, .slice none 0 0, .slice none 0 0, .slice none 0 0, .slice none 0 0, 0, [], []⟩, ⟨Blk.new w _ _, ⟨Own.nil _ _ _, Own.nil _ _ _, Own.nil _ _ _, ⟨Own.nil _ _ _, by simp [startD]⟩, Own.nil _ _ _⟩, by simp, ?_, ?_⟩, by intro h; simp [startD] at h⟩
    · rintro k (e | e | e | e | e | ⟨j, e⟩ | e)
      · exact e
      · simp [Value.ownBlock] at e
      · simp [Value.ownBlock] at e
      · simp [Value.ownBlock] at e
      · simp [Value.ownBlock] at e
      · simp [blockAt] at e
      · simp [Value.ownBlock] at e
    · rintro k rfl
      simp
  have HF := Lib.hid hfin
  clear hfin
  by_cases h : room < 0
  · go_enter Tryz.func12, Tryz.ntmps12
    go_wp2_with fail
    go_ret
    exact ⟨rfl, HF.out 0 (by omega), by ((repeat (first | exact Chg.refl _ _ | assumption | refine Chg.drewN ?_ _ | refine Chg.drew ?_ | refine Chg.alloc ?_ _ | refine Chg.setCell ?_ (by first | (simp; done) | (simp; omega) | (intro h; simp at h; omega)) _))), by simp⟩
  · go_enter Tryz.func12, Tryz.ntmps12
    go_wp2_with fail
    go_ret
    exact ⟨rfl, HF.out room (by omega), by ((repeat (first | exact Chg.refl _ _ | assumption | refine Chg.drewN ?_ _ | refine Chg.drew ?_ | refine Chg.alloc ?_ _ | refine Chg.setCell ?_ (by first | (simp; done) | (simp; omega) | (intro h; simp at h; omega)) _))), by simp⟩
section
variable (r : Nat) (D : DiskV) (M : Nat → Prop) (n : ByteArray) (w : World) (h : RAt w r D M)
include h
set_option maxRecDepth 100000 in
set_option maxHeartbeats 4000000 in
theorem rd_read : Calls Tryz.prog 47 #[.pointer (some ⟨r, 0, none⟩), .string n] w fun e w' => e = .returned (.tuple #[.string (readD D n).1, .int .i64 (readD D n).2]) ∧ Chg (fun _ => False) w w' := by
  obtain ⟨hok, y, hin, _⟩ := h
  obtain ⟨_, c1, c2, _, _, c5, _⟩ := rin_cells hin
  have hfind := fun W hW => rd_find (ofNames D.names) n y.nv W (hin.parts.names.same (w' := W) hW)
  rw [findN_eq] at hfind
  obtain ⟨fa, fc, hfv, _, hfn, hfread⟩ := rfl_form hin.parts.files
  rw [hfv] at c1
  unfold readD
  cases ho : D.off with
  | true =>
    rw [ho] at c5
    clear hin hfind hok hfread hfv ho
    go_enter Tryz.func47, Tryz.ntmps47
    go_wp2_with fail
    go_ret2
    exact ⟨rfl, Chg.refl _ _⟩
  | false =>
    rw [ho] at c5
    cases hk : look D.names n with
    | none =>
      rw [hk] at hfind
      have HF := Lib.hid hfind
      clear hin hfind hok hfread hfv hk ho
      generalize y.nv = nv at *
      go_enter Tryz.func47, Tryz.ntmps47
      go_wp2_with fail
      refine (HF.out _ (Chg.refl _ _)).mono ?_
      rintro e w' ⟨rfl, m, rfl⟩
      go_wp2_with fail
      go_ret2
      exact ⟨rfl, by ((repeat (first | exact Chg.refl _ _ | assumption | refine Chg.drewN ?_ _ | refine Chg.drew ?_ | refine Chg.alloc ?_ _ | refine Chg.setCell ?_ (by first | (simp; done) | (simp; omega) | (intro h; simp at h; omega)) _)))⟩
    | some i =>
      rw [hk] at hfind
      have hi := hok.names.lt _ (look_some hk)
      obtain ⟨fb, rfl, hfb, _, z0, _⟩ := hfread i hi
      have hdo : dataOf D i = D.files[i].data := by unfold dataOf; rw [List.getElem?_eq_getElem hi]
      simp only [Bool.false_eq_true, if_false, hdo]
      have hi1 : (i : Int) < (D.files.length : Int) := by have : i < D.files.length := hi; omega
      have hi0 : (0 : Int) ≤ (i : Int) := by omega
      have HF := Lib.hid hfind
      generalize D.files[i].data = s at *
      clear hin hfind hok hfread hfv hk ho hdo
      generalize y.nv = nv at *
      go_enter Tryz.func47, Tryz.ntmps47
      go_wp2_with fail
      refine (HF.out _ (Chg.refl _ _)).mono ?_
      rintro e w' ⟨rfl, m, rfl⟩
      go_wp2_with fail
      go_ret2
      exact ⟨rfl, by ((repeat (first | exact Chg.refl _ _ | assumption | refine Chg.drewN ?_ _ | refine Chg.drew ?_ | refine Chg.alloc ?_ _ | refine Chg.setCell ?_ (by first | (simp; done) | (simp; omega) | (intro h; simp at h; omega)) _)))⟩
set_option maxRecDepth 100000 in
set_option maxHeartbeats 4000000 in
theorem rd_part (p k : Int) (hp1 : -9223372036854775808 ≤ p) (hp2 : p ≤ 9223372036854775807) (hk1 : -9223372036854775808 ≤ k) (hk2 : k ≤ 9223372036854775807) :
    Calls Tryz.prog 56 #[.pointer (some ⟨r, 0, none⟩), .string n, .int .i64 p, .int .i64 k] w fun e w' => e = .returned (.tuple #[.string (partD D n p k).1, .int .i64 (partD D n p k).2]) ∧ Chg (fun _ => False) w w' := by
  have hread := rd_read r D M n w h
  have hok := h.1
  unfold readD at hread
  unfold partD
  cases ho : D.off with
  | true =>
    rw [ho] at hread
    have HR := Lib.hid hread
    clear hread h hok ho
    go_enter Tryz.func56, Tryz.ntmps56
    go_wp2_with fail
    refine HR.out.mono ?_
    rintro e w1 ⟨rfl, hc⟩
    go_wp2_with fail
    go_ret2
    exact ⟨rfl, hc⟩
  | false =>
    rw [ho] at hread
    cases hk : look D.names n with
    | none =>
      rw [hk] at hread
      have HR := Lib.hid hread
      clear hread h hok ho hk
      go_enter Tryz.func56, Tryz.ntmps56
      go_wp2_with fail
      refine HR.out.mono ?_
      rintro e w1 ⟨rfl, hc⟩
      go_wp2_with fail
      go_ret2
      exact ⟨rfl, hc⟩
    | some i =>
      rw [hk] at hread
      have hi := hok.names.lt _ (look_some hk)
      have hsz : D.files[i].data.size ≤ 1048576 := (hok.file _ (List.getElem_mem hi)).2
      have hdo : dataOf D i = D.files[i].data := by unfold dataOf; rw [List.getElem?_eq_getElem hi]
      simp only [Bool.false_eq_true, if_false, hdo] at hread ⊢
      have HR := Lib.hid hread
      generalize D.files[i].data = s at *
      clear hread h hok ho hk hdo hi
      by_cases hbad : partBad s p k
      · rw [if_pos hbad]
        unfold partBad at hbad
        go_enter Tryz.func56, Tryz.ntmps56
        go_wp2_with fail
        refine HR.out.mono ?_
        rintro e w1 ⟨rfl, hc⟩
        have HC := Lib.hid hc
        clear hc
        by_cases b1 : p < 0
        · clear hbad
          go_wp2_with fail
          go_ret2
          exact ⟨rfl, HC.out⟩
        · by_cases b2 : k < 0
          · clear hbad
            go_wp2_with fail
            go_ret2
            exact ⟨rfl, HC.out⟩
          · by_cases b3 : (s.size : Int) < p
            · clear hbad
              go_wp2_with fail
              go_ret2
              exact ⟨rfl, HC.out⟩
            · have b4 : (s.size : Int) - p < k := by omega
              clear hbad
              go_wp2_with fail
              go_ret2
              exact ⟨rfl, HC.out⟩
      · rw [if_neg hbad]
        unfold partBad at hbad
        have b1 : 0 ≤ p := by omega
        have b2 : 0 ≤ k := by omega
        have b3 : p ≤ (s.size : Int) := by omega
        have b4 : k ≤ (s.size : Int) - p := by omega
        have b5 : p + k ≤ (s.size : Int) := by omega
        have b6 : p ≤ p + k := by omega
        have b7 : 0 ≤ p + k := by omega
        clear hbad
        go_enter Tryz.func56, Tryz.ntmps56
        go_wp2_with fail
        refine HR.out.mono ?_
        rintro e w1 ⟨rfl, hc⟩
        have HC := Lib.hid hc
        clear hc
        go_wp2_with fail
        go_ret2
        exact ⟨rfl, HC.out⟩
set_option maxRecDepth 100000 in
theorem rd_break (k : Int) (hk : k ≤ 9223372036854775807) : Calls Tryz.prog 62 #[.pointer (some ⟨r, 0, none⟩), .int .i64 k] w fun e w' => e = .returned (.tuple #[]) ∧ RPost w r M (breakD D k) w' := by
  obtain ⟨hok, y, hin, hce⟩ := h
  obtain ⟨_, _, _, _, _, _, _, _, _, c9⟩ := rin_cells hin
  have f9 := hin.blk.frozen 9
  have hfin : ∀ m, m = max 1 k → RPost w r M (breakD D k) (w.setCell ⟨r, 9, none⟩ (.int .i64 m)) := by
    rintro m rfl
    have hset : Chg (fun k => k = r) w (w.setCell ⟨r, 9, none⟩ (.int .i64 (max 1 k))) := Chg.setOwn (Chg.refl _ _) _ _
    have hb := hin.blk.set_ 9 (.int .i64 (max 1 k))
    have hr := hin.setR (D' := breakD D k) hset (by simpa [rCells, breakD] using hb) rfl rfl rfl rfl
    exact RPost.same ⟨break_ok hok hk, y, hr, hce⟩ hin.lt (hset.mono fun k _ e => by rw [e]; exact hin.mine r (.inl rfl))
  have HF := Lib.hid hfin
  clear hin hfin hok
  by_cases h : k < 1
  · go_enter Tryz.func62, Tryz.ntmps62
    go_wp2_with fail
    first | go_end0 | refine bodyPost_ret (results_none rfl _ _ _) rfl ?_
    exact ⟨rfl, HF.out _ (by omega)⟩
  · go_enter Tryz.func62, Tryz.ntmps62
    go_wp2_with fail
    first | go_end0 | refine bodyPost_ret (results_none rfl _ _ _) rfl ?_
    exact ⟨rfl, HF.out _ (by omega)⟩
/-- The bytes of a cut lie in a row that is handed over. -/
theorem rd_cut (k names : Int) (bytes : List Int) (bv : Value) (hk : k ≤ 9223372036854775807) (hn1 : -9223372036854775808 ≤ names) (hn2 : names ≤ 9223372036854775807) (hbb : ∀ x ∈ bytes, -9223372036854775808 ≤ x ∧ x ≤ 9223372036854775807)
    (hb : Own w 3 1 bv bytes.length (intCells bytes)) (hbM : ∀ k, bv.ownBlock = some k → M k) : Calls Tryz.prog 60 #[.pointer (some ⟨r, 0, none⟩), .int .i64 k, .int .i64 names, bv] w fun e w' => e = .returned (.tuple #[]) ∧ RPost w r M (cutD D k names bytes) w' := by
  obtain ⟨hok, y, hin, hce⟩ := h
  obtain ⟨_, _, _, _, _, _, c6, c7, c8, _⟩ := rin_cells hin
  have f6 := hin.blk.frozen 6
  have f7 := hin.blk.frozen 7
  have f8 := hin.blk.frozen 8
  obtain ⟨ba, bc, rfl, _, _, _⟩ := hb.reads
  have hfin : ∀ m W, m = max 1 k → W = ((w.setCell ⟨r, 6, none⟩ (.int .i64 m)).setCell ⟨r, 7, none⟩ (.int .i64 names)).setCell ⟨r, 8, none⟩ (.slice ba bytes.length bc) → RPost w r M (cutD D k names bytes) W := by
    rintro m W rfl hW
    have hset : Chg (fun k => k = r) w W := by rw [hW]; exact Chg.setOwn (Chg.setOwn (Chg.setOwn (Chg.refl _ _) _ _) _ _) _ _
    have hbl := ((hin.blk.set_ 6 (.int .i64 (max 1 k))).set_ 7 (.int .i64 names)).set_ 8 (.slice ba bytes.length bc)
    rw [← hW] at hbl
    have hp := hin.own hset
    have hcb := hb.chg hset (fun k hk e => by
      obtain ⟨cs, hb2⟩ := hb.typed hk
      exact hb2.ne_ hin.blk (by decide) e)
    have hr : RIn W r (cutD D k names bytes) { y with cn := names, cv := .slice ba bytes.length bc, cb := bytes } M := by
      refine ⟨by simpa [rCells, cutD] using hbl, ⟨hp.files, hp.names, hp.lasts, hp.queue, hcb⟩, ⟨⟨hn1, hn2⟩, hbb⟩, ?_, fun k hk => Nat.lt_of_lt_of_le (hin.lt k hk) hset.size⟩
      have hm := hin.mine
      rintro k (e | e | e | e | e | e | e)
      · exact hm k (.inl e)
      · exact hm k (.inr (.inl e))
      · exact hm k (.inr (.inr (.inl e)))
      · exact hm k (.inr (.inr (.inr (.inl e))))
      · exact hm k (.inr (.inr (.inr (.inr (.inl e)))))
      · exact hm k (.inr (.inr (.inr (.inr (.inr (.inl e))))))
      · exact hbM k e
    exact RPost.same ⟨cut_ok hok hk hn1 hn2 hbb, _, hr, fun _ => ⟨rfl, rfl⟩⟩ hin.lt (hset.mono fun k _ e => by rw [e]; exact hin.mine r (.inl rfl))
  have HF := Lib.hid hfin
  clear hin hfin hok hb hbM hce
  generalize y.cv = cv at *
  generalize y.cn = cn at *
  by_cases h : k < 1
  · go_enter Tryz.func60, Tryz.ntmps60
    go_wp2_with fail
    first | go_end0 | refine bodyPost_ret (results_none rfl _ _ _) rfl ?_
    exact ⟨rfl, HF.out 1 _ (by omega) rfl⟩
  · go_enter Tryz.func60, Tryz.ntmps60
    go_wp2_with fail
    first | go_end0 | refine bodyPost_ret (results_none rfl _ _ _) rfl ?_
    exact ⟨rfl, HF.out k _ (by omega) rfl⟩
end
end Go.Proofs.YtjfbcjmnjlehaaaGreatDoor
