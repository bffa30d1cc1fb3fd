/-
  Numbers of a disk behind some calls: plain facts. Plain Lean; no condition.
-/
import Derived.Test.YtjfbcjmnjlehaaaGreatDoorDiskZb
namespace Go.Proofs.YtjfbcjmnjlehaaaGreatDoor
open Go.RowKit
set_option linter.unusedVariables false
set_option linter.unusedSimpArgs false

theorem p_insN_len (n : ByteArray) (i : Nat) (l : Names) : (insN n i l).length = l.length + 1 := insN_len n i l
theorem p_dropN_le (n : ByteArray) (l : Names) : (dropN n l).length ≤ l.length := List.length_filter_le _ _
theorem p_doOne_len (l : Names) (c : ByteArray × Option Nat) : (doOne l c).length ≤ l.length + 1 := by
  unfold doOne
  cases c.2 with
  | none => have := p_dropN_le c.1 l; simp only; omega
  | some i => have := p_dropN_le c.1 l; simp only [p_insN_len]; omega
theorem p_doStep_len (s : StepV) : ∀ l : Names, (doStep l s).length ≤ l.length + s.length := by
  induction s with
  | nil => simp [doStep]
  | cons c s ih =>
    intro l
    have h1 := p_doOne_len l c
    have h2 := ih (doOne l c)
    show (doStep (doOne l c) s).length ≤ _
    simp; omega
theorem p_doAll_len (q : List StepV) (h : ∀ s ∈ q, s.length ≤ 2) : ∀ l : Names, (doAll l q).length ≤ l.length + 2 * q.length := by
  induction q with
  | nil => simp [doAll]
  | cons s q ih =>
    intro l
    have h1 := p_doStep_len s l
    have h2 := ih (fun t ht => h t (by simp [ht])) (doStep l s)
    have h3 := h s (by simp)
    show (doAll (doStep l s) q).length ≤ _
    simp; omega
def PAsc (l : Names) : Prop := l.Pairwise fun a b => slt a.1 b.1 = true
theorem p_slt_iff {a b : ByteArray} : slt a b = true ↔ a.data.toList < b.data.toList := by simp [slt]
theorem p_slt_trans {a b c : ByteArray} (h : slt a b = true) (h2 : slt b c = true) : slt a c = true := p_slt_iff.2 (List.lt_trans (p_slt_iff.1 h) (p_slt_iff.1 h2))
theorem p_slt_total {a b : ByteArray} (h : ¬ slt a b = true) (hne : a ≠ b) : slt b a = true := by
  rw [p_slt_iff] at h ⊢
  have h1 : b.data.toList ≤ a.data.toList := List.not_lt.1 h
  by_cases hn : b.data.toList < a.data.toList
  · exact hn
  · have h2 : a.data.toList ≤ b.data.toList := List.not_lt.1 hn
    have e := List.le_antisymm h2 h1
    exact absurd (by cases a with | mk x => cases b with | mk y => simp only [ByteArray.mk.injEq]; exact Array.toList_inj.1 e) hne
theorem PAsc.drop {l : Names} (h : PAsc l) (n : ByteArray) : PAsc (dropN n l) := h.sublist List.filter_sublist
theorem PAsc.ins {n : ByteArray} {i : Nat} : ∀ {l : Names}, PAsc l → (∀ p ∈ l, p.1 ≠ n) → PAsc (insN n i l)
  | [], _, _ => by simp [insN, PAsc]
  | q :: r, h, hn => by
    unfold PAsc at h
    rw [List.pairwise_cons] at h
    unfold insN
    split
    · rename_i hs
      unfold PAsc
      rw [List.pairwise_cons, List.pairwise_cons]
      refine ⟨fun p hp => ?_, h⟩
      rcases List.mem_cons.1 hp with rfl | hp
      · exact hs
      · exact p_slt_trans hs (h.1 p hp)
    · rename_i hs
      unfold PAsc
      rw [List.pairwise_cons]
      refine ⟨fun p hp => ?_, PAsc.ins (l := r) h.2 fun p hp => hn p (by simp [hp])⟩
      rcases mem_insN.1 hp with rfl | hp
      · exact p_slt_total hs (hn q (by simp)).symm
      · exact h.1 p hp
theorem PAsc.doOne {l : Names} (h : PAsc l) (c : ByteArray × Option Nat) : PAsc (doOne l c) := by
  unfold Go.Proofs.YtjfbcjmnjlehaaaGreatDoor.doOne
  cases c.2 with
  | none => exact h.drop _
  | some i => exact (h.drop _).ins fun p hp => (mem_dropN.1 hp).2
theorem PAsc.doStep : ∀ {s : StepV} {l : Names}, PAsc l → PAsc (doStep l s)
  | [], l, h => h
  | c :: s, l, h => PAsc.doStep (s := s) (h.doOne c)
theorem PAsc.doAll : ∀ {q : List StepV} {l : Names}, PAsc l → PAsc (doAll l q)
  | [], l, h => h
  | s :: q, l, h => PAsc.doAll (q := q) h.doStep

/-- Behind n acts. -/
structure PSm (N : Nat) (D : DiskV) : Prop where
  f : D.files.length ≤ N
  n : D.names.length ≤ 2 * N
  l : D.lasts.length + 2 * D.queue.length ≤ 2 * N
  s : ∀ s ∈ D.queue, s.length ≤ 2
  an : PAsc D.names
  al : PAsc D.lasts
section
variable {n : Nat} {D : DiskV}
theorem PSm.up (h : PSm n D) : PSm (n + 1) D := ⟨by have := h.f; omega, by have := h.n; omega, by have := h.l; omega, h.s, h.an, h.al⟩
theorem p_bsm_start (room : Int) : PSm 0 (startD room) := ⟨by simp [startD], by simp [startD], by simp [startD], by simp [startD], List.Pairwise.nil, List.Pairwise.nil⟩
theorem p_bsm_trap (h : PSm n D) : PSm n (trapped D) := ⟨h.f, h.n, h.l, h.s, h.an, h.al⟩
theorem p_bsm_fail (h : PSm n D) (names : Int) (bytes : List Int) : PSm n (failD D names bytes) := by
  have hl := p_doAll_len (D.queue.take (restI names (D.queue.length + 1)).toNat) (fun s hs => h.s s (List.mem_of_mem_take hs)) D.lasts
  have ht : (D.queue.take (restI names (D.queue.length + 1)).toNat).length ≤ D.queue.length := by rw [List.length_take]; omega
  have h1 := h.l
  refine ⟨by simp [failD]; exact h.f, ?_, ?_, by simp [failD], PAsc.doAll h.al, PAsc.doAll h.al⟩
  · show (doAll D.lasts _).length ≤ _
    omega
  · show (doAll D.lasts _).length + 2 * ([] : List StepV).length ≤ _
    simp only [List.length_nil]
    omega
theorem p_bsm_off (h : PSm n D) (b : Bool) : PSm n { D with off := b } := ⟨h.f, h.n, h.l, h.s, h.an, h.al⟩
theorem p_bsm_change {act : DiskV → DiskV} (h : PSm n D) (ha : PSm (n + 1) (act (trapped D))) (c : Bool) : PSm (n + 1) (changeD D c act).2 := by
  unfold changeD
  split
  · refine p_bsm_off (p_bsm_fail ?_ _ _) true
    cases c
    · exact (p_bsm_trap h).up
    · exact ha
  · split
    · exact (p_bsm_trap h).up
    · exact ha
theorem p_bsm_rename1 (s : StepV) (hs : s.length ≤ 2) (h : PSm n D) : PSm (n + 1) (rename1 s D) := by
  have h1 := p_doStep_len s D.names
  have h2 := h.n
  have h3 := h.l
  refine ⟨by have := h.f; show D.files.length ≤ _; omega, ?_, ?_, fun t ht => ?_, h.an.doStep, h.al⟩
  · show (doStep D.names s).length ≤ _
    omega
  · show D.lasts.length + 2 * (D.queue ++ [s]).length ≤ _
    simp
    omega
  · rcases List.mem_append.1 ht with ht | ht
    · exact h.s t ht
    · simp at ht; subst ht; exact hs
theorem p_bsm_setF (h : PSm n D) (i : Nat) (g : FileV → FileV) : PSm n (setF D i g) := ⟨by simp [setF]; exact h.f, h.n, h.l, h.s, h.an, h.al⟩
variable (a b : ByteArray)
theorem p_bsm_create (h : PSm n D) : PSm (n + 1) (createD D a).2 := by
  unfold createD
  split
  · exact h.up
  · split
    · exact h.up
    · split
      · exact h.up
      · split
        · exact h.up
        · refine p_bsm_change h ?_ true
          have ht := p_bsm_trap h
          have h1 := p_doStep_len [(a, some (trapped D).files.length)] (trapped D).names
          simp only [List.length_singleton] at h1
          have h2 := h.n
          have h3 := h.l
          refine ⟨by show ((trapped D).files ++ [_]).length ≤ _; simp; exact h.f, ?_, ?_, fun t ht2 => ?_, ht.an.doStep, ht.al⟩
          · show (doStep (trapped D).names _).length ≤ _
            have : (trapped D).names.length = D.names.length := rfl
            omega
          · show (trapped D).lasts.length + 2 * ((trapped D).queue ++ [_]).length ≤ _
            have e1 : (trapped D).lasts.length = D.lasts.length := rfl
            have e2 : (trapped D).queue.length = D.queue.length := rfl
            simp
            omega
          · have ht3 : t ∈ (trapped D).queue ++ [[(a, some (trapped D).files.length)]] := ht2
            rcases List.mem_append.1 ht3 with ht3 | ht3
            · exact h.s t ht3
            · simp at ht3; subst ht3; simp
theorem p_bsm_append (h : PSm n D) : PSm (n + 1) (appendD D a b).2 := by
  unfold appendD
  split
  · exact h.up
  · split
    · split
      · exact h.up
      · exact p_bsm_change h (p_bsm_setF (p_bsm_trap h) _ _).up true
    · exact h.up
theorem p_bsm_sync (h : PSm n D) : PSm (n + 1) (syncD D a).2 := by
  unfold syncD
  split
  · exact h.up
  · split
    · exact p_bsm_change h (p_bsm_setF (p_bsm_trap h) _ _).up false
    · exact h.up
theorem p_bsm_syncdir (h : PSm n D) : PSm (n + 1) (syncDirD D).2 := by
  unfold syncDirD
  split
  · exact h.up
  · refine p_bsm_change h ?_ false
    have ht := p_bsm_trap h
    exact ⟨by have := ht.f; show (trapped D).files.length ≤ _; omega, by have := ht.n; show (trapped D).names.length ≤ _; omega, by have := ht.n; show (trapped D).names.length + 2 * ([] : List StepV).length ≤ _; simp only [List.length_nil]; omega, by simp [syncDirA], ht.an, ht.an⟩
theorem p_bsm_remove (h : PSm n D) : PSm (n + 1) (removeD D a).2 := by
  unfold removeD
  split
  · exact h.up
  · split
    · exact p_bsm_change h (p_bsm_rename1 _ (by simp) (p_bsm_trap h)) true
    · exact h.up
theorem p_bsm_crash (h : PSm n D) (names : Int) (bytes : List Int) : PSm (n + 1) (crashD D names bytes) := (p_bsm_off (p_bsm_fail h names bytes) false).up
theorem p_bsm_cut (h : PSm n D) (k names : Int) (bytes : List Int) : PSm (n + 1) (cutD D k names bytes) := PSm.up ⟨h.f, h.n, h.l, h.s, h.an, h.al⟩
theorem p_bsm_spoil (h : PSm n D) (k : Int) : PSm (n + 1) (spoilD D a k) := by
  unfold spoilD
  split
  · split
    · exact h.up
    · exact (p_bsm_setF h _ _).up
  · exact h.up
end
end Go.Proofs.YtjfbcjmnjlehaaaGreatDoor
