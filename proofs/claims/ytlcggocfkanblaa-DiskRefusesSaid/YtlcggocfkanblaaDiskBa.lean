/-
  Bounds on a disk behind so many acts, and that its names stand in order. Plain.
-/
import Derived.Test.YtlcggocfkanblaaRdG
import Derived.Test.YtlcggocfkanblaaDiskZc
namespace Go.Proofs.Ytlcggocfkanblaa
open Go.RowKit
set_option linter.unusedVariables false
set_option linter.unusedSimpArgs false

def Asc (l : Names) : Prop := l.Pairwise fun a b => slt a.1 b.1 = true
theorem slt_iff {a b : ByteArray} : slt a b = true ↔ a.data.toList < b.data.toList := by simp [slt]
theorem slt_trans {a b c : ByteArray} (h : slt a b = true) (h2 : slt b c = true) : slt a c = true := slt_iff.2 (List.lt_trans (slt_iff.1 h) (slt_iff.1 h2))
theorem slt_total {a b : ByteArray} (h : ¬ slt a b = true) (hne : a ≠ b) : slt b a = true := by
  rw [slt_iff] at h ⊢
  have h1 : b.data.toList ≤ a.data.toList := List.not_lt.1 h
  by_cases hn : b.data.toList < a.data.toList
  · exact hn
  · have h2 : a.data.toList ≤ b.data.toList := List.not_lt.1 hn
    have e := List.le_antisymm h2 h1
    exact absurd (by cases a with | mk x => cases b with | mk y => simp only [ByteArray.mk.injEq]; exact Array.toList_inj.1 e) hne
theorem Asc.drop {l : Names} (h : Asc l) (n : ByteArray) : Asc (dropN n l) := h.sublist List.filter_sublist
theorem Asc.ins {n : ByteArray} {i : Nat} : ∀ {l : Names}, Asc l → (∀ p ∈ l, p.1 ≠ n) → Asc (insN n i l)
  | [], _, _ => by simp [insN, Asc]
  | q :: r, h, hn => by
    unfold Asc at h
    rw [List.pairwise_cons] at h
    unfold insN
    split
    · rename_i hs
      unfold Asc
      rw [List.pairwise_cons, List.pairwise_cons]
      refine ⟨fun p hp => ?_, h⟩
      rcases List.mem_cons.1 hp with rfl | hp
      · exact hs
      · exact slt_trans hs (h.1 p hp)
    · rename_i hs
      unfold Asc
      rw [List.pairwise_cons]
      refine ⟨fun p hp => ?_, Asc.ins (l := r) h.2 fun p hp => hn p (by simp [hp])⟩
      rcases mem_insN.1 hp with rfl | hp
      · exact slt_total hs (hn q (by simp)).symm
      · exact h.1 p hp
theorem Asc.doOne {l : Names} (h : Asc l) (c : ByteArray × Option Nat) : Asc (doOne l c) := by
  unfold Go.Proofs.Ytlcggocfkanblaa.doOne
  cases c.2 with
  | none => exact h.drop _
  | some i => exact (h.drop _).ins fun p hp => (mem_dropN.1 hp).2
theorem Asc.doStep : ∀ {s : StepV} {l : Names}, Asc l → Asc (doStep l s)
  | [], l, h => h
  | c :: s, l, h => Asc.doStep (s := s) (h.doOne c)
theorem Asc.doAll : ∀ {q : List StepV} {l : Names}, Asc l → Asc (doAll l q)
  | [], l, h => h
  | s :: q, l, h => Asc.doAll (q := q) h.doStep

/-- Behind n acts. -/
structure BSm (N : Nat) (D : DiskV) : Prop where
  f : D.files.length ≤ N
  n : D.names.length ≤ 2 * N
  l : D.lasts.length + 2 * D.queue.length ≤ 2 * N
  s : ∀ s ∈ D.queue, s.length ≤ 2
  an : Asc D.names
  al : Asc D.lasts
section
variable {n : Nat} {D : DiskV}
theorem BSm.rsm (h : BSm n D) (hn : n ≤ 1000) : RSm D := ⟨by have := h.l; omega, by have := h.f; omega, by have := h.n; omega, by have := h.l; omega, h.s⟩
theorem BSm.up (h : BSm n D) : BSm (n + 1) D := ⟨by have := h.f; omega, by have := h.n; omega, by have := h.l; omega, h.s, h.an, h.al⟩
theorem bsm_start (room : Int) : BSm 0 (startD room) := ⟨by simp [startD], by simp [startD], by simp [startD], by simp [startD], List.Pairwise.nil, List.Pairwise.nil⟩
theorem bsm_trap (h : BSm n D) : BSm n (trapped D) := ⟨h.f, h.n, h.l, h.s, h.an, h.al⟩
theorem bsm_fail (h : BSm n D) (names : Int) (bytes : List Int) : BSm n (failD D names bytes) := by
  have hl := doAll_len (D.queue.take (restI names (D.queue.length + 1)).toNat) (fun s hs => h.s s (List.mem_of_mem_take hs)) D.lasts
  have ht : (D.queue.take (restI names (D.queue.length + 1)).toNat).length ≤ D.queue.length := by rw [List.length_take]; omega
  have h1 := h.l
  refine ⟨by simp [failD]; exact h.f, ?_, ?_, by simp [failD], Asc.doAll h.al, Asc.doAll h.al⟩
  · show (doAll D.lasts _).length ≤ _
    omega
  · show (doAll D.lasts _).length + 2 * ([] : List StepV).length ≤ _
    simp only [List.length_nil]
    omega
theorem bsm_off (h : BSm n D) (b : Bool) : BSm n { D with off := b } := ⟨h.f, h.n, h.l, h.s, h.an, h.al⟩
theorem bsm_change {act : DiskV → DiskV} (h : BSm n D) (ha : BSm (n + 1) (act (trapped D))) (c : Bool) : BSm (n + 1) (changeD D c act).2 := by
  unfold changeD
  split
  · refine bsm_off (bsm_fail ?_ _ _) true
    cases c
    · exact (bsm_trap h).up
    · exact ha
  · split
    · exact (bsm_trap h).up
    · exact ha
theorem bsm_rename1 (s : StepV) (hs : s.length ≤ 2) (h : BSm n D) : BSm (n + 1) (rename1 s D) := by
  have h1 := doStep_len s D.names
  have h2 := h.n
  have h3 := h.l
  refine ⟨by have := h.f; show D.files.length ≤ _; omega, ?_, ?_, fun t ht => ?_, h.an.doStep, h.al⟩
  · show (doStep D.names s).length ≤ _
    omega
  · show D.lasts.length + 2 * (D.queue ++ [s]).length ≤ _
    simp
    omega
  · rcases List.mem_append.1 ht with ht | ht
    · exact h.s t ht
    · simp at ht; subst ht; exact hs
theorem bsm_setF (h : BSm n D) (i : Nat) (g : FileV → FileV) : BSm n (setF D i g) := ⟨by simp [setF]; exact h.f, h.n, h.l, h.s, h.an, h.al⟩
variable (a b : ByteArray)
theorem bsm_create (h : BSm n D) : BSm (n + 1) (createD D a).2 := by
  unfold createD
  split
  · exact h.up
  · split
    · exact h.up
    · split
      · exact h.up
      · split
        · exact h.up
        · refine bsm_change h ?_ true
          have ht := bsm_trap h
          have h1 := doStep_len [(a, some (trapped D).files.length)] (trapped D).names
          simp only [List.length_singleton] at h1
          have h2 := h.n
          have h3 := h.l
          refine ⟨by show ((trapped D).files ++ [_]).length ≤ _; simp; exact h.f, ?_, ?_, fun t ht2 => ?_, ht.an.doStep, ht.al⟩
          · show (doStep (trapped D).names _).length ≤ _
            have : (trapped D).names.length = D.names.length := rfl
            omega
          · show (trapped D).lasts.length + 2 * ((trapped D).queue ++ [_]).length ≤ _
            have e1 : (trapped D).lasts.length = D.lasts.length := rfl
            have e2 : (trapped D).queue.length = D.queue.length := rfl
            simp
            omega
          · have ht3 : t ∈ (trapped D).queue ++ [[(a, some (trapped D).files.length)]] := ht2
            rcases List.mem_append.1 ht3 with ht3 | ht3
            · exact h.s t ht3
            · simp at ht3; subst ht3; simp
theorem bsm_append (h : BSm n D) : BSm (n + 1) (appendD D a b).2 := by
  unfold appendD
  split
  · exact h.up
  · split
    · split
      · exact h.up
      · exact bsm_change h (bsm_setF (bsm_trap h) _ _).up true
    · exact h.up
theorem bsm_sync (h : BSm n D) : BSm (n + 1) (syncD D a).2 := by
  unfold syncD
  split
  · exact h.up
  · split
    · exact bsm_change h (bsm_setF (bsm_trap h) _ _).up false
    · exact h.up
theorem bsm_syncdir (h : BSm n D) : BSm (n + 1) (syncDirD D).2 := by
  unfold syncDirD
  split
  · exact h.up
  · refine bsm_change h ?_ false
    have ht := bsm_trap h
    exact ⟨by have := ht.f; show (trapped D).files.length ≤ _; omega, by have := ht.n; show (trapped D).names.length ≤ _; omega, by have := ht.n; show (trapped D).names.length + 2 * ([] : List StepV).length ≤ _; simp only [List.length_nil]; omega, by simp [syncDirA], ht.an, ht.an⟩
theorem bsm_rename (h : BSm n D) : BSm (n + 1) (renameD D a b).2 := by
  unfold renameD
  split
  · exact h.up
  · split
    · split
      · refine bsm_change h ?_ true
        unfold renameA
        split
        · exact (bsm_trap h).up
        · exact bsm_rename1 _ (by simp) (bsm_trap h)
      · exact h.up
    · exact h.up
theorem bsm_remove (h : BSm n D) : BSm (n + 1) (removeD D a).2 := by
  unfold removeD
  split
  · exact h.up
  · split
    · exact bsm_change h (bsm_rename1 _ (by simp) (bsm_trap h)) true
    · exact h.up
theorem bsm_crash (h : BSm n D) (names : Int) (bytes : List Int) : BSm (n + 1) (crashD D names bytes) := (bsm_off (bsm_fail h names bytes) false).up
theorem bsm_cut (h : BSm n D) (k names : Int) (bytes : List Int) : BSm (n + 1) (cutD D k names bytes) := BSm.up ⟨h.f, h.n, h.l, h.s, h.an, h.al⟩
theorem bsm_break (h : BSm n D) (k : Int) : BSm (n + 1) (breakD D k) := BSm.up ⟨h.f, h.n, h.l, h.s, h.an, h.al⟩
theorem bsm_on (h : BSm n D) : BSm (n + 1) (onD D) := BSm.up ⟨h.f, h.n, h.l, h.s, h.an, h.al⟩
theorem bsm_spoil (h : BSm n D) (k : Int) : BSm (n + 1) (spoilD D a k) := by
  unfold spoilD
  split
  · split
    · exact h.up
    · exact (bsm_setF h _ _).up
  · exact h.up
end
end Go.Proofs.Ytlcggocfkanblaa
