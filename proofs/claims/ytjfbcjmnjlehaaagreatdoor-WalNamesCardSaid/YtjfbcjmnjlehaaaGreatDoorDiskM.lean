/-
  The disk as plain data: what each call makes of it. No program's text.
-/
import Derived.Test.YtjfbcjmnjlehaaaGreatDoorBase
namespace Go.Proofs.YtjfbcjmnjlehaaaGreatDoor
open Go.RowKit
set_option linter.unusedVariables false
set_option linter.unusedSimpArgs false

structure FileV where
  data : ByteArray
  lasts : Nat
/-- Names with the numbers of their files; a step: changes of names (none: the name is gone). -/
abbrev Names := List (ByteArray × Nat)
abbrev StepV := List (ByteArray × Option Nat)
structure DiskV where
  room : Int
  files : List FileV
  names : Names
  lasts : Names
  queue : List StepV
  cutL : Int
  cutN : Int
  cutB : List Int
  fullL : Int
  off : Bool
def slt (a b : ByteArray) : Bool := decide (a.data.toList < b.data.toList)
def dropN (n : ByteArray) (l : Names) : Names := l.filter fun p => decide (p.1 ≠ n)
def insN (n : ByteArray) (i : Nat) : Names → Names
  | [] => [(n, i)]
  | p :: r => if slt n p.1 then (n, i) :: p :: r else p :: insN n i r
def doOne (l : Names) (c : ByteArray × Option Nat) : Names := match c.2 with | none => dropN c.1 l | some i => insN c.1 i (dropN c.1 l)
def doStep (l : Names) (s : StepV) : Names := s.foldl doOne l
def doAll (l : Names) (q : List StepV) : Names := q.foldl doStep l
def look : Names → ByteArray → Option Nat
  | [], _ => none
  | p :: r, n => if p.1 = n then some p.2 else look r n
def restI (n b : Int) : Int := if n < 0 then (-(n + 1)).tmod b else n.tmod b
def fileFix (bytes : List Int) (i : Nat) (f : FileV) : FileV :=
  let keep : Int := if bytes = [] then 0 else restI (bytes.getD (i % bytes.length) 0) ((f.data.size : Int) - f.lasts + 1)
  ⟨f.data.extract 0 (f.lasts + keep.toNat), f.lasts + keep.toNat⟩
def failD (D : DiskV) (names : Int) (bytes : List Int) : DiskV :=
  { D with lasts := doAll D.lasts (D.queue.take (restI names (D.queue.length + 1)).toNat), names := doAll D.lasts (D.queue.take (restI names (D.queue.length + 1)).toNat), queue := [],
           files := D.files.mapIdx (fileFix bytes), cutL := 0, cutN := 0, cutB := [], fullL := 0 }
def sizeOfN (files : List FileV) (p : ByteArray × Nat) : Int := match files[p.2]? with | some f => f.data.size | none => 0
def usedD (D : DiskV) : Int := (D.names.map (sizeOfN D.files)).sum
def spring (l : Int) : Bool × Int := if l = 0 then (false, 0) else (l - 1 == 0, l - 1)
def trapped (D : DiskV) : DiskV := { D with cutL := (spring D.cutL).2, fullL := (spring D.fullL).2 }
def changeD (D : DiskV) (atCut : Bool) (act : DiskV → DiskV) : Int × DiskV :=
  if (spring D.cutL).1 then (13, { failD (if atCut then act (trapped D) else trapped D) (if atCut then act (trapped D) else trapped D).cutN (if atCut then act (trapped D) else trapped D).cutB with off := true })
  else if (spring D.fullL).1 then (12, trapped D) else (0, act (trapped D))
def rename1 (s : StepV) (D : DiskV) : DiskV := { D with names := doStep D.names s, queue := D.queue ++ [s] }
def goodN (n : ByteArray) : Bool := decide (n.size ≠ 0) && decide (n.size ≤ 64)
def createA (n : ByteArray) (D : DiskV) : DiskV := rename1 [(n, some D.files.length)] { D with files := D.files ++ [⟨⟨#[]⟩, 0⟩] }
def setF (D : DiskV) (i : Nat) (f : FileV → FileV) : DiskV := { D with files := D.files.modify i f }
def appendA (i : Nat) (s : ByteArray) (D : DiskV) : DiskV := setF D i fun f => ⟨f.data ++ s, f.lasts⟩
def syncA (i : Nat) (D : DiskV) : DiskV := setF D i fun f => ⟨f.data, f.data.size⟩
def syncDirA (D : DiskV) : DiskV := { D with lasts := D.names, queue := [] }
def renameA (a b : ByteArray) (i : Nat) (D : DiskV) : DiskV := if a = b then D else rename1 [(b, some i), (a, none)] D
def removeA (n : ByteArray) (D : DiskV) : DiskV := rename1 [(n, none)] D

/-- The names point to files that are there; no name stands twice. -/
structure NamesOk (l : Names) (n : Nat) : Prop where
  lt : ∀ p ∈ l, p.2 < n
  one : l.Pairwise fun a b => a.1 ≠ b.1
  sz : ∀ p ∈ l, p.1.size ≤ 64
def StepOk (s : StepV) (n : Nat) : Prop := ∀ c ∈ s, c.1.size ≤ 64 ∧ ∀ i, c.2 = some i → i < n
structure DiskOk (D : DiskV) : Prop where
  names : NamesOk D.names D.files.length
  lasts : NamesOk D.lasts D.files.length
  queue : ∀ s ∈ D.queue, StepOk s D.files.length
  file : ∀ f ∈ D.files, f.lasts ≤ f.data.size ∧ f.data.size ≤ 1048576
  room : 0 ≤ D.room ∧ D.room ≤ 9223372036854775807
  cutL : 0 ≤ D.cutL ∧ D.cutL ≤ 9223372036854775807
  fullL : 0 ≤ D.fullL ∧ D.fullL ≤ 9223372036854775807
  cutN : -9223372036854775808 ≤ D.cutN ∧ D.cutN ≤ 9223372036854775807
  cutB : ∀ n ∈ D.cutB, -9223372036854775808 ≤ n ∧ n ≤ 9223372036854775807

theorem NamesOk.nil (n : Nat) : NamesOk [] n := ⟨by simp, List.Pairwise.nil, by simp⟩
theorem NamesOk.mono {l : Names} {n m : Nat} (h : NamesOk l n) (hn : n ≤ m) : NamesOk l m := ⟨fun p hp => Nat.lt_of_lt_of_le (h.lt p hp) hn, h.one, h.sz⟩
theorem mem_dropN {n : ByteArray} {l : Names} {p : ByteArray × Nat} : p ∈ dropN n l ↔ p ∈ l ∧ p.1 ≠ n := by simp [dropN]
theorem mem_insN {n : ByteArray} {i : Nat} {p : ByteArray × Nat} : ∀ {l : Names}, p ∈ insN n i l ↔ p = (n, i) ∨ p ∈ l
  | [] => by simp [insN]
  | q :: r => by
    unfold insN
    split
    · simp
    · rw [List.mem_cons, mem_insN, List.mem_cons]
      constructor
      · rintro (h | h | h) <;> simp [h]
      · rintro (h | h | h) <;> simp [h]
theorem NamesOk.drop {l : Names} {k : Nat} (h : NamesOk l k) (n : ByteArray) : NamesOk (dropN n l) k :=
  ⟨fun p hp => h.lt p (mem_dropN.1 hp).1, h.one.sublist List.filter_sublist, fun p hp => h.sz p (mem_dropN.1 hp).1⟩
theorem ins_one {n : ByteArray} {i : Nat} : ∀ {l : Names}, (l.Pairwise fun a b => a.1 ≠ b.1) → (∀ p ∈ l, p.1 ≠ n) → (insN n i l).Pairwise fun a b => a.1 ≠ b.1
  | [], _, _ => by simp [insN]
  | q :: r, h, hn => by
    unfold insN
    rw [List.pairwise_cons] at h
    split
    · rw [List.pairwise_cons, List.pairwise_cons]
      exact ⟨fun p hp => (hn p hp).symm, h⟩
    · rw [List.pairwise_cons]
      refine ⟨fun p hp => ?_, ins_one h.2 fun p hp => hn p (by simp [hp])⟩
      rcases mem_insN.1 hp with rfl | hp
      · exact hn q (by simp)
      · exact h.1 p hp
theorem NamesOk.ins {l : Names} {k : Nat} (h : NamesOk l k) (n : ByteArray) (i : Nat) (hi : i < k) (hn : n.size ≤ 64) : NamesOk (insN n i (dropN n l)) k :=
  ⟨fun p hp => by
    rcases mem_insN.1 hp with rfl | hp
    · exact hi
    · exact (h.drop n).lt p hp, ins_one (h.drop n).one fun p hp => (mem_dropN.1 hp).2, fun p hp => by
    rcases mem_insN.1 hp with rfl | hp
    · exact hn
    · exact (h.drop n).sz p hp⟩
theorem NamesOk.doOne {l : Names} {k : Nat} (h : NamesOk l k) (c : ByteArray × Option Nat) (hc : c.1.size ≤ 64 ∧ ∀ i, c.2 = some i → i < k) : NamesOk (doOne l c) k := by
  unfold Go.Proofs.YtjfbcjmnjlehaaaGreatDoor.doOne
  cases hc2 : c.2 with
  | none => exact h.drop _
  | some i => exact h.ins _ _ (hc.2 i hc2) hc.1
theorem NamesOk.doStep {k : Nat} : ∀ {s : StepV} {l : Names}, NamesOk l k → StepOk s k → NamesOk (doStep l s) k
  | [], l, h, _ => h
  | c :: s, l, h, hs => NamesOk.doStep (s := s) (h.doOne c (hs c (by simp))) fun d hd => hs d (by simp [hd])
theorem NamesOk.doAll {k : Nat} : ∀ {q : List StepV} {l : Names}, NamesOk l k → (∀ s ∈ q, StepOk s k) → NamesOk (doAll l q) k
  | [], l, h, _ => h
  | s :: q, l, h, hs => NamesOk.doAll (q := q) (h.doStep (hs s (by simp))) fun d hd => hs d (by simp [hd])
theorem look_some {l : Names} {n : ByteArray} {i : Nat} (h : look l n = some i) : (n, i) ∈ l := by
  induction l with
  | nil => simp [look] at h
  | cons p r ih =>
    unfold look at h
    split at h
    · rename_i he; cases h; simp [← he]
    · simp [ih h]
theorem look_none {l : Names} {n : ByteArray} (h : look l n = none) : ∀ p ∈ l, p.1 ≠ n := by
  induction l with
  | nil => simp
  | cons p r ih =>
    unfold look at h
    split at h
    · cases h
    · rename_i he
      intro q hq
      rcases List.mem_cons.1 hq with rfl | hq
      · exact he
      · exact ih h q hq
theorem look_mem {l : Names} {n : ByteArray} {i : Nat} (ho : l.Pairwise fun a b => a.1 ≠ b.1) (h : (n, i) ∈ l) : look l n = some i := by
  induction l with
  | nil => cases h
  | cons p r ih =>
    rw [List.pairwise_cons] at ho
    unfold look
    rcases List.mem_cons.1 h with rfl | h
    · simp
    · rw [if_neg (fun e => ho.1 _ h e), ih ho.2 h]
theorem look_cons (p : ByteArray × Nat) (r : Names) (n : ByteArray) : look (p :: r) n = if p.1 = n then some p.2 else look r n := rfl
theorem dropN_len {l : Names} {n : ByteArray} (h : l.Pairwise fun a b => a.1 ≠ b.1) : (dropN n l).length = if (look l n).isSome then l.length - 1 else l.length := by
  induction l with
  | nil => rfl
  | cons p r ih =>
    rw [List.pairwise_cons] at h
    have ih' := ih h.2
    clear ih
    rw [look_cons]
    unfold dropN at *
    by_cases hp : p.1 = n
    · have hr : (r.filter fun p => decide (p.1 ≠ n)) = r := by
        rw [List.filter_eq_self]
        intro q hq
        have := h.1 q hq
        rw [hp] at this
        simpa using this.symm
      simp only [List.filter_cons, hp, ne_eq, not_true_eq_false, decide_false, Bool.false_eq_true, ↓reduceIte, Option.isSome_some, List.length_cons]
      rw [hr]; rfl
    · simp only [List.filter_cons, hp, ne_eq, not_false_eq_true, decide_true, ↓reduceIte, List.length_cons]
      rw [ih']
      cases hl : look r n with
      | none => simp
      | some i =>
        have := List.length_pos_of_mem (look_some hl)
        simp; omega
theorem insN_len (n : ByteArray) (i : Nat) : ∀ l : Names, (insN n i l).length = l.length + 1
  | [] => rfl
  | p :: r => by
    unfold insN
    split
    · simp
    · simp [insN_len n i r]
theorem restI_bd {n b : Int} (hb : 0 < b) : 0 ≤ restI n b ∧ restI n b < b := by
  unfold restI
  split
  · exact ⟨Int.tmod_nonneg _ (by omega), Int.tmod_lt_of_pos _ hb⟩
  · exact ⟨Int.tmod_nonneg _ (by omega), Int.tmod_lt_of_pos _ hb⟩
/-! ### What a call leaves is good -/
theorem StepOk.mono {s : StepV} {n m : Nat} (h : StepOk s n) (hn : n ≤ m) : StepOk s m := fun c hc => ⟨(h c hc).1, fun i hi => Nat.lt_of_lt_of_le ((h c hc).2 i hi) hn⟩
theorem spring_le {l : Int} (h : 0 ≤ l ∧ l ≤ 9223372036854775807) : 0 ≤ (spring l).2 ∧ (spring l).2 ≤ 9223372036854775807 := by
  unfold spring
  split
  · simp
  · simp only; omega
theorem trapped_ok {D : DiskV} (h : DiskOk D) : DiskOk (trapped D) := { h with cutL := spring_le h.cutL, fullL := spring_le h.fullL }
theorem rename1_ok {D : DiskV} {s : StepV} (h : DiskOk D) (hs : StepOk s D.files.length) : DiskOk (rename1 s D) :=
  ⟨h.names.doStep hs, h.lasts, fun t ht => by
      rcases List.mem_append.1 ht with ht | ht
      · exact h.queue t ht
      · simp at ht; subst ht; exact hs, h.file, h.room, h.cutL, h.fullL, h.cutN, h.cutB⟩
theorem fileFix_ok {bytes : List Int} {i : Nat} {f : FileV} (h : f.lasts ≤ f.data.size ∧ f.data.size ≤ 1048576) : (fileFix bytes i f).lasts ≤ (fileFix bytes i f).data.size ∧ (fileFix bytes i f).data.size ≤ 1048576 := by
  unfold fileFix
  have hk : f.lasts + (if bytes = [] then (0 : Int) else restI (bytes.getD (i % bytes.length) 0) ((f.data.size : Int) - f.lasts + 1)).toNat ≤ f.data.size := by
    split
    · simpa using h.1
    · have := restI_bd (n := bytes.getD (i % bytes.length) 0) (b := (f.data.size : Int) - f.lasts + 1) (by omega)
      omega
  simp only [ByteArray.size_extract]
  omega
theorem fail_ok {D : DiskV} (h : DiskOk D) (names : Int) (bytes : List Int) : DiskOk (failD D names bytes) := by
  have hl : NamesOk (doAll D.lasts (D.queue.take (restI names (D.queue.length + 1)).toNat)) D.files.length := h.lasts.doAll fun s hs => h.queue s (List.mem_of_mem_take hs)
  refine ⟨by simpa [failD] using hl, by simpa [failD] using hl, by simp [failD], fun f hf => ?_, h.room, by simp [failD], by simp [failD], by simp [failD], by simp [failD]⟩
  simp only [failD, List.mem_mapIdx] at hf
  obtain ⟨i, hi, rfl⟩ := hf
  exact fileFix_ok (h.file _ (List.getElem_mem hi))
theorem off_ok {D : DiskV} (h : DiskOk D) (b : Bool) : DiskOk { D with off := b } := { h with }
theorem create_ok {D : DiskV} (h : DiskOk D) {n : ByteArray} (hn : n.size ≤ 64) : DiskOk (createA n D) := by
  refine rename1_ok (D := { D with files := D.files ++ [⟨⟨#[]⟩, 0⟩] }) ⟨h.names.mono (by simp), h.lasts.mono (by simp), fun s hs => (h.queue s hs).mono (by simp), fun f hf => ?_, h.room, h.cutL, h.fullL, h.cutN, h.cutB⟩ ?_
  · rcases List.mem_append.1 hf with hf | hf
    · exact h.file f hf
    · simp at hf; subst hf; exact ⟨Nat.le_refl _, by simp [ByteArray.size]⟩
  · intro c hc
    simp at hc; subst hc
    exact ⟨hn, fun i hi => by cases hi; simp⟩
theorem setF_ok {D : DiskV} (h : DiskOk D) {i : Nat} {g : FileV → FileV} (hg : ∀ f, D.files[i]? = some f → (g f).lasts ≤ (g f).data.size ∧ (g f).data.size ≤ 1048576) : DiskOk (setF D i g) := by
  have hl : (D.files.modify i g).length = D.files.length := by simp
  refine ⟨by simpa [setF] using h.names, by simpa [setF] using h.lasts, by simpa [setF] using h.queue, fun f hf => ?_, h.room, h.cutL, h.fullL, h.cutN, h.cutB⟩
  simp only [setF] at hf
  obtain ⟨j, hj, rfl⟩ := List.mem_iff_getElem.1 hf
  rw [List.getElem_modify]
  split
  · rename_i e
    subst e
    exact hg _ (List.getElem?_eq_getElem (by rw [← hl]; exact hj))
  · exact h.file _ (List.getElem_mem _)
theorem syncDir_ok {D : DiskV} (h : DiskOk D) : DiskOk (syncDirA D) := { h with lasts := h.names, queue := by simp [syncDirA] }
theorem rename_ok {D : DiskV} (h : DiskOk D) {a b : ByteArray} {i : Nat} (hi : i < D.files.length) (ha : a.size ≤ 64) (hb : b.size ≤ 64) : DiskOk (renameA a b i D) := by
  unfold renameA
  split
  · exact h
  · refine rename1_ok h fun c hc => ?_
    simp at hc
    rcases hc with rfl | rfl
    · exact ⟨hb, fun j hj => by cases hj; exact hi⟩
    · exact ⟨ha, fun j hj => by cases hj⟩
theorem remove_ok {D : DiskV} (h : DiskOk D) {n : ByteArray} (hn : n.size ≤ 64) : DiskOk (removeA n D) :=
  rename1_ok h fun c hc => by
    simp at hc; subst hc
    exact ⟨hn, fun j hj => by cases hj⟩
theorem change_ok {D : DiskV} {act : DiskV → DiskV} (h : DiskOk D) (ha : DiskOk (act (trapped D))) (atCut : Bool) : DiskOk (changeD D atCut act).2 := by
  unfold changeD
  split
  · refine off_ok (fail_ok ?_ _ _) true
    cases atCut
    · exact trapped_ok h
    · exact ha
  · split
    · exact trapped_ok h
    · exact ha
end Go.Proofs.YtjfbcjmnjlehaaaGreatDoor
