/-
  The disk: Remove, Break, On, Off.
  The disk: Spoil, Part.
  Numbers of a disk behind some calls: plain facts. Plain Lean; no condition.
  A disk of the call's own: every call in one form; wakes.
  A list whose elements lie one behind another in a block of their own: one set of laws for every element type (a 'Codec': how an element reads as cells). Plain laws over the program; no condition.
-/
import Derived.Test.YtahahginmgidjaaGreatDoorZMg07
import Derived.Test.YtahahginmgidjaaGreatDoorProg
import Derived.Test.YtahahginmgidjaaGreatDoorZMg00
import Derived.Deep.RegionLaw
namespace Go.Proofs.YtahahginmgidjaaGreatDoor
open Go.RowKit
set_option linter.unusedVariables false
set_option linter.unusedSimpArgs false

set_option maxRecDepth 100000 in
set_option maxHeartbeats 4000000 in
theorem disk_remove (d : Nat) (ids : List Nat) (D : DiskV) (M : Nat → Prop) (a : ByteArray) (hn : a.size ≤ maxLen) (hq : D.queue.length ≤ 999999990) (w : World) (h : DiskAt w d ids D M) :
    Calls Tryz.prog 31 #[.pointer (some ⟨d, 0, none⟩), .string a] w fun e w' => e = .returned (.int .i64 (removeD D a).1) ∧ DPost w d ids M (removeD D a).2 w' := by
  have hlt := h.lt
  have hdl := h.d_lt
  have H := Lib.hid h
  have HLT := Lib.hid hlt
  unfold removeD
  obtain ⟨W1, hW1⟩ : ∃ W1, W1 = (w.alloc (.cells #[.pointer (some ⟨d, 0, none⟩)] 24)).alloc (.cells #[.string a] 9) := ⟨_, rfl⟩
  have hc1 : Chg (fun _ => False) w W1 := by rw [hW1]; ((repeat (first | exact Chg.refl _ _ | assumption | refine Chg.drewN ?_ _ | refine Chg.drew ?_ | refine Chg.alloc ?_ _ | refine Chg.setCell ?_ (by first | (simp; done) | (simp; omega) | (intro h; simp at h; omega)) _)))
  have hbd : Blk W1 w.heap.size 24 #[.pointer (some ⟨d, 0, none⟩)] := by rw [hW1]; exact (Blk.new w _ _).alloc _
  have hba : Blk W1 (w.heap.size + 1) 9 #[.string a] := by
    rw [hW1]
    have := Blk.new (w.alloc (.cells #[.pointer (some ⟨d, 0, none⟩)] 24)) 9 #[.string a]
    simpa using this
  have hs1 : W1.heap.size = w.heap.size + 2 := by rw [hW1]; simp
  have h1 := h.same hc1
  have hfind := disk_find d ids D M a hn W1 h1
  unfold findV at hfind
  have b0 := hbd.cell 0
  have b1 := hba.cell 0
  simp at b0 b1
  have HW1 := Lib.hid hW1
  have HC1 := Lib.hid hc1
  have HBD := Lib.hid hbd
  have HBA := Lib.hid hba
  have H1 := Lib.hid h1
  have HS1 := Lib.hid hs1
  have hpost : ∀ W, Chg (fun _ => False) w W → DPost w d ids M D W := fun W hW => DPost.same (H.out.same hW) HLT.out (hW.mono (by simp))
  have HP0 := Lib.hid hpost
  clear hW1 hc1 hbd hba h1 hs1 hpost hlt
  cases ho : D.off with
  | true =>
    rw [ho] at hfind
    have HFI := Lib.hid hfind
    clear hfind ho h
    go_enter Tryz.func31, Tryz.ntmps31
    go_wp2_with fail
    rw [← HW1.out]
    refine HFI.out.mono ?_
    rintro e w' ⟨rfl, rfl⟩
    go_wp2_with fail
    go_ret
    exact ⟨rfl, HP0.out _ (HC1.out.then (by ((repeat (first | exact Chg.refl _ _ | assumption | refine Chg.drewN ?_ _ | refine Chg.drew ?_ | refine Chg.alloc ?_ _ | refine Chg.setCell ?_ (by first | (simp; done) | (simp; omega) | (intro h; simp at h; omega)) _)))))⟩
  | false =>
    rw [ho] at hfind
    cases hk : look D.names a with
    | none =>
      rw [hk] at hfind
      have HFI := Lib.hid hfind
      clear hfind ho h hk
      go_enter Tryz.func31, Tryz.ntmps31
      go_wp2_with fail
      rw [← HW1.out]
      refine HFI.out.mono ?_
      rintro e w' ⟨rfl, rfl⟩
      go_wp2_with fail
      go_ret
      exact ⟨rfl, HP0.out _ (HC1.out.then (by ((repeat (first | exact Chg.refl _ _ | assumption | refine Chg.drewN ?_ _ | refine Chg.drew ?_ | refine Chg.alloc ?_ _ | refine Chg.setCell ?_ (by first | (simp; done) | (simp; omega) | (intro h; simp at h; omega)) _)))))⟩
    | some i =>
      rw [hk] at hfind
      have ha64 := h.1.names.sz _ (look_some hk)
      have hs1 := HS1.out
      have hch := disk_change d ids D M true 96 #[.pointer (some ⟨w.heap.size, 0, none⟩), .pointer (some ⟨w.heap.size + 1, 0, none⟩)] (removeA a) W1 H1.out (by unfold removeA rename1 trapped; simp; omega) (by omega) (enters _ _ (by kernel_rfl))
        (fun W y' hy hW => act_remove d w.heap.size (w.heap.size + 1) a ids (trapped D) y' M W (trapped_ok h.1) (by show D.queue.length ≤ _; omega) ha64 hy (HBD.out.chg hW (by omega)) (HBA.out.chg hW (by omega)))
      have hl2 : w.heap.size + 1 < W1.heap.size := HBA.out.lt
      unfold fptr at hfind
      simp only at hfind
      generalize ids.getD i 0 = q at hfind
      have HFI := Lib.hid hfind
      have HCH := Lib.hid hch
      clear hfind ho h hk ha64 hch hs1
      go_enter Tryz.func31, Tryz.ntmps31
      go_wp2_with fail
      rw [← HW1.out]
      refine HFI.out.mono ?_
      rintro e w' ⟨rfl, rfl⟩
      go_wp2_with fail
      refine HCH.out.mono ?_
      rintro e w3 ⟨rfl, hp⟩
      have HP := Lib.hid hp
      clear hp
      go_wp2_with fail
      go_ret
      exact ⟨rfl, HP.out.first HLT.out (HC1.out.mono (by simp))⟩

end Go.Proofs.YtahahginmgidjaaGreatDoor
namespace Go.Proofs.YtahahginmgidjaaGreatDoor
open Go.RowKit
set_option linter.unusedVariables false
set_option linter.unusedSimpArgs false

end Go.Proofs.YtahahginmgidjaaGreatDoor
namespace Go.Proofs.YtahahginmgidjaaGreatDoor
open Go.RowKit
set_option linter.unusedVariables false
set_option linter.unusedSimpArgs false

theorem p_insN_len (n : ByteArray) (i : Nat) (l : Names) : (insN n i l).length = l.length + 1 := insN_len n i l
theorem p_dropN_le (n : ByteArray) (l : Names) : (dropN n l).length ≤ l.length := List.length_filter_le _ _
theorem p_doOne_len (l : Names) (c : ByteArray × Option Nat) : (doOne l c).length ≤ l.length + 1 := by
  unfold doOne
  cases c.2 with
  | none => have := p_dropN_le c.1 l; simp only; omega
  | some i => have := p_dropN_le c.1 l; simp only [p_insN_len]; omega
theorem p_doStep_len (s : StepV) : ∀ l : Names, (doStep l s).length ≤ l.length + s.length := by
  induction s with
  | nil => simp [doStep]
  | cons c s ih =>
    intro l
    have h1 := p_doOne_len l c
    have h2 := ih (doOne l c)
    show (doStep (doOne l c) s).length ≤ _
    simp; omega
theorem p_doAll_len (q : List StepV) (h : ∀ s ∈ q, s.length ≤ 2) : ∀ l : Names, (doAll l q).length ≤ l.length + 2 * q.length := by
  induction q with
  | nil => simp [doAll]
  | cons s q ih =>
    intro l
    have h1 := p_doStep_len s l
    have h2 := ih (fun t ht => h t (by simp [ht])) (doStep l s)
    have h3 := h s (by simp)
    show (doAll (doStep l s) q).length ≤ _
    simp; omega
def PAsc (l : Names) : Prop := l.Pairwise fun a b => slt a.1 b.1 = true
theorem p_slt_iff {a b : ByteArray} : slt a b = true ↔ a.data.toList < b.data.toList := by simp [slt]
theorem p_slt_trans {a b c : ByteArray} (h : slt a b = true) (h2 : slt b c = true) : slt a c = true := p_slt_iff.2 (List.lt_trans (p_slt_iff.1 h) (p_slt_iff.1 h2))
theorem p_slt_total {a b : ByteArray} (h : ¬ slt a b = true) (hne : a ≠ b) : slt b a = true := by
  rw [p_slt_iff] at h ⊢
  have h1 : b.data.toList ≤ a.data.toList := List.not_lt.1 h
  by_cases hn : b.data.toList < a.data.toList
  · exact hn
  · have h2 : a.data.toList ≤ b.data.toList := List.not_lt.1 hn
    have e := List.le_antisymm h2 h1
    exact absurd (by cases a with | mk x => cases b with | mk y => simp only [ByteArray.mk.injEq]; exact Array.toList_inj.1 e) hne
theorem PAsc.drop {l : Names} (h : PAsc l) (n : ByteArray) : PAsc (dropN n l) := h.sublist List.filter_sublist
theorem PAsc.ins {n : ByteArray} {i : Nat} : ∀ {l : Names}, PAsc l → (∀ p ∈ l, p.1 ≠ n) → PAsc (insN n i l)
  | [], _, _ => by simp [insN, PAsc]
  | q :: r, h, hn => by
    unfold PAsc at h
    rw [List.pairwise_cons] at h
    unfold insN
    split
    · rename_i hs
      unfold PAsc
      rw [List.pairwise_cons, List.pairwise_cons]
      refine ⟨fun p hp => ?_, h⟩
      rcases List.mem_cons.1 hp with rfl | hp
      · exact hs
      · exact p_slt_trans hs (h.1 p hp)
    · rename_i hs
      unfold PAsc
      rw [List.pairwise_cons]
      refine ⟨fun p hp => ?_, PAsc.ins (l := r) h.2 fun p hp => hn p (by simp [hp])⟩
      rcases mem_insN.1 hp with rfl | hp
      · exact p_slt_total hs (hn q (by simp)).symm
      · exact h.1 p hp
theorem PAsc.doOne {l : Names} (h : PAsc l) (c : ByteArray × Option Nat) : PAsc (doOne l c) := by
  unfold Go.Proofs.YtahahginmgidjaaGreatDoor.doOne
  cases c.2 with
  | none => exact h.drop _
  | some i => exact (h.drop _).ins fun p hp => (mem_dropN.1 hp).2
theorem PAsc.doStep : ∀ {s : StepV} {l : Names}, PAsc l → PAsc (doStep l s)
  | [], l, h => h
  | c :: s, l, h => PAsc.doStep (s := s) (h.doOne c)
theorem PAsc.doAll : ∀ {q : List StepV} {l : Names}, PAsc l → PAsc (doAll l q)
  | [], l, h => h
  | s :: q, l, h => PAsc.doAll (q := q) h.doStep

/-- Behind n acts. -/
structure PSm (N : Nat) (D : DiskV) : Prop where
  f : D.files.length ≤ N
  n : D.names.length ≤ 2 * N
  l : D.lasts.length + 2 * D.queue.length ≤ 2 * N
  s : ∀ s ∈ D.queue, s.length ≤ 2
  an : PAsc D.names
  al : PAsc D.lasts
section
variable {n : Nat} {D : DiskV}
theorem PSm.up (h : PSm n D) : PSm (n + 1) D := ⟨by have := h.f; omega, by have := h.n; omega, by have := h.l; omega, h.s, h.an, h.al⟩
theorem p_bsm_start (room : Int) : PSm 0 (startD room) := ⟨by simp [startD], by simp [startD], by simp [startD], by simp [startD], List.Pairwise.nil, List.Pairwise.nil⟩
theorem p_bsm_trap (h : PSm n D) : PSm n (trapped D) := ⟨h.f, h.n, h.l, h.s, h.an, h.al⟩
theorem p_bsm_fail (h : PSm n D) (names : Int) (bytes : List Int) : PSm n (failD D names bytes) := by
  have hl := p_doAll_len (D.queue.take (restI names (D.queue.length + 1)).toNat) (fun s hs => h.s s (List.mem_of_mem_take hs)) D.lasts
  have ht : (D.queue.take (restI names (D.queue.length + 1)).toNat).length ≤ D.queue.length := by rw [List.length_take]; omega
  have h1 := h.l
  refine ⟨by simp [failD]; exact h.f, ?_, ?_, by simp [failD], PAsc.doAll h.al, PAsc.doAll h.al⟩
  · show (doAll D.lasts _).length ≤ _
    omega
  · show (doAll D.lasts _).length + 2 * ([] : List StepV).length ≤ _
    simp only [List.length_nil]
    omega
theorem p_bsm_off (h : PSm n D) (b : Bool) : PSm n { D with off := b } := ⟨h.f, h.n, h.l, h.s, h.an, h.al⟩
theorem p_bsm_change {act : DiskV → DiskV} (h : PSm n D) (ha : PSm (n + 1) (act (trapped D))) (c : Bool) : PSm (n + 1) (changeD D c act).2 := by
  unfold changeD
  split
  · refine p_bsm_off (p_bsm_fail ?_ _ _) true
    cases c
    · exact (p_bsm_trap h).up
    · exact ha
  · split
    · exact (p_bsm_trap h).up
    · exact ha
theorem p_bsm_rename1 (s : StepV) (hs : s.length ≤ 2) (h : PSm n D) : PSm (n + 1) (rename1 s D) := by
  have h1 := p_doStep_len s D.names
  have h2 := h.n
  have h3 := h.l
  refine ⟨by have := h.f; show D.files.length ≤ _; omega, ?_, ?_, fun t ht => ?_, h.an.doStep, h.al⟩
  · show (doStep D.names s).length ≤ _
    omega
  · show D.lasts.length + 2 * (D.queue ++ [s]).length ≤ _
    simp
    omega
  · rcases List.mem_append.1 ht with ht | ht
    · exact h.s t ht
    · simp at ht; subst ht; exact hs
theorem p_bsm_setF (h : PSm n D) (i : Nat) (g : FileV → FileV) : PSm n (setF D i g) := ⟨by simp [setF]; exact h.f, h.n, h.l, h.s, h.an, h.al⟩
variable (a b : ByteArray)
theorem p_bsm_create (h : PSm n D) : PSm (n + 1) (createD D a).2 := by
  unfold createD
  split
  · exact h.up
  · split
    · exact h.up
    · split
      · exact h.up
      · split
        · exact h.up
        · refine p_bsm_change h ?_ true
          have ht := p_bsm_trap h
          have h1 := p_doStep_len [(a, some (trapped D).files.length)] (trapped D).names
          simp only [List.length_singleton] at h1
          have h2 := h.n
          have h3 := h.l
          refine ⟨by show ((trapped D).files ++ [_]).length ≤ _; simp; exact h.f, ?_, ?_, fun t ht2 => ?_, ht.an.doStep, ht.al⟩
          · show (doStep (trapped D).names _).length ≤ _
            have : (trapped D).names.length = D.names.length := rfl
            omega
          · show (trapped D).lasts.length + 2 * ((trapped D).queue ++ [_]).length ≤ _
            have e1 : (trapped D).lasts.length = D.lasts.length := rfl
            have e2 : (trapped D).queue.length = D.queue.length := rfl
            simp
            omega
          · have ht3 : t ∈ (trapped D).queue ++ [[(a, some (trapped D).files.length)]] := ht2
            rcases List.mem_append.1 ht3 with ht3 | ht3
            · exact h.s t ht3
            · simp at ht3; subst ht3; simp
theorem p_bsm_append (h : PSm n D) : PSm (n + 1) (appendD D a b).2 := by
  unfold appendD
  split
  · exact h.up
  · split
    · split
      · exact h.up
      · exact p_bsm_change h (p_bsm_setF (p_bsm_trap h) _ _).up true
    · exact h.up
theorem p_bsm_sync (h : PSm n D) : PSm (n + 1) (syncD D a).2 := by
  unfold syncD
  split
  · exact h.up
  · split
    · exact p_bsm_change h (p_bsm_setF (p_bsm_trap h) _ _).up false
    · exact h.up
theorem p_bsm_syncdir (h : PSm n D) : PSm (n + 1) (syncDirD D).2 := by
  unfold syncDirD
  split
  · exact h.up
  · refine p_bsm_change h ?_ false
    have ht := p_bsm_trap h
    exact ⟨by have := ht.f; show (trapped D).files.length ≤ _; omega, by have := ht.n; show (trapped D).names.length ≤ _; omega, by have := ht.n; show (trapped D).names.length + 2 * ([] : List StepV).length ≤ _; simp only [List.length_nil]; omega, by simp [syncDirA], ht.an, ht.an⟩
theorem p_bsm_remove (h : PSm n D) : PSm (n + 1) (removeD D a).2 := by
  unfold removeD
  split
  · exact h.up
  · split
    · exact p_bsm_change h (p_bsm_rename1 _ (by simp) (p_bsm_trap h)) true
    · exact h.up
end
end Go.Proofs.YtahahginmgidjaaGreatDoor
namespace Go.Proofs.YtahahginmgidjaaGreatDoor
open Go.RowKit
set_option linter.unusedVariables false
set_option linter.unusedSimpArgs false

/-- A disk at d whose blocks are all new since w0; nothing older has changed. -/
def DState (w0 w : World) (d : Nat) (D : DiskV) : Prop := ∃ ids M, DiskAt w d ids D M ∧ (∀ k, M k → w0.heap.size ≤ k) ∧ Chg (fun _ => False) w0 w
section
variable {w0 w w' : World} {d : Nat} {ids : List Nat} {D D' : DiskV} {M : Nat → Prop}
theorem DState.same (h : DState w0 w d D) (hc : Chg (fun _ => False) w w') : DState w0 w' d D := by
  obtain ⟨ids, M, ha, hM, hc0⟩ := h
  exact ⟨ids, M, ha.same hc, hM, hc0.then hc⟩
theorem DState.frame (h : DState w0 w d D) : Chg (fun _ => False) w0 w := h.choose_spec.choose_spec.2.2
theorem DState.ok (h : DState w0 w d D) : DiskOk D := h.choose_spec.choose_spec.1.1
end
/-- Bounds that a disk in a law keeps well below. -/
structure DSmall (D : DiskV) : Prop where
  q : D.queue.length ≤ 999999990
  f : D.files.length ≤ 999999990
  n : D.names.length ≤ 1000000

section
variable (w0 : World) (d : Nat) (D : DiskV) (n : ByteArray) (hn : n.size ≤ maxLen) (hD : DSmall D) (w : World) (h : DState w0 w d D)
include hn hD h
end
theorem st_new (room : Int) (hr : room ≤ 9223372036854775807) (w : World) : Calls Tryz.prog 5 #[.int .i64 room] w fun e w' => e = .returned (.pointer (some ⟨w.heap.size + 2, 0, none⟩)) ∧ DState w w' (w.heap.size + 2) (startD room) :=
  (disk_new room hr w).mono fun e w' ⟨he, ha, hc, _⟩ => ⟨he, [], _, ha, fun k hk => hk.1, hc⟩
/-! ### wakes -/
end Go.Proofs.YtahahginmgidjaaGreatDoor
namespace Go.Proofs.YtahahginmgidjaaGreatDoor
open Go.RowKit
set_option linter.unusedVariables false
set_option linter.unusedSimpArgs false

theorem Blk.new1 (w : World) (o : Obj) (t : TypeId) (cs : Array Value) : Blk ((w.alloc o).alloc (.cells cs t)) (w.heap.size + 1) t cs := by
  have := Blk.new (w.alloc o) t cs
  simpa using this
theorem Blk.new2 (w : World) (o o' : Obj) (t : TypeId) (cs : Array Value) : Blk (((w.alloc o).alloc o').alloc (.cells cs t)) (w.heap.size + 2) t cs := by
  have := Blk.new ((w.alloc o).alloc o') t cs
  simpa using this
structure Codec (α : Type) where
  g : α → List Value
  k : Nat
  e : TypeId
  s : TypeId
  zero : Value
  bytes : Nat
structure Codec.Ok {α : Type} (C : Codec α) : Prop where
  len : ∀ x, (C.g x).length = C.k
  pos : 0 < C.k
  one : ∀ x, ∀ v ∈ C.g x, v.oneCell' = true
  und : Tryz.prog.underlying C.s = some (.slice C.e)
  info : (Tryz.prog.info? C.e).map (fun i => (i.zero, i.size, i.bytes)) = some (some C.zero, C.k, C.bytes)
  zsize : C.zero.cells.size = C.k
  small : C.bytes ≤ 128

/-- The slice value v is the list l. -/
def Lst {α : Type} (C : Codec α) (w : World) (v : Value) (l : List α) : Prop := Own w C.e C.k v l.length (l.flatMap C.g)

section
variable {α : Type} {C : Codec α} {w w' : World} {v : Value} {l : List α}
theorem Lst.nil (C : Codec α) (w : World) : Lst C w (.slice none 0 0) [] := Own.nil _ _ _
theorem Lst.chg {S : Nat → Prop} (h : Lst C w v l) (hc : Chg S w w') (hS : ∀ k, v.ownBlock = some k → ¬ S k) : Lst C w' v l := Own.chg h hc hS
theorem Lst.same (h : Lst C w v l) (hc : Chg (fun _ => False) w w') : Lst C w' v l := Own.same h hc
theorem Lst.typed (h : Lst C w v l) {k : Nat} (hk : v.ownBlock = some k) : ∃ cs, Blk w k C.e cs := Own.typed h hk
theorem Lst.lt (h : Lst C w v l) {k : Nat} (hk : v.ownBlock = some k) : k < w.heap.size := Own.lt h hk
theorem flat_at (hk : ∀ x, (C.g x).length = C.k) (A : List α) (x : α) (B : List α) (j : Nat) (y : Value) (hy : (C.g x)[j]? = some y) : ((A ++ x :: B).flatMap C.g)[A.length * C.k + j]? = some y := by
  have hlen : (A.flatMap C.g).length = A.length * C.k := by
    induction A with
    | nil => simp
    | cons a A ih => simp only [List.flatMap_cons, List.length_append, hk, ih, List.length_cons, Nat.add_mul, Nat.one_mul]; omega
  have hj : j < C.k := by
    have := (List.getElem?_eq_some_iff.1 hy).1
    rwa [hk] at this
  rw [List.flatMap_append, List.getElem?_append_right (by omega), hlen, Nat.add_sub_cancel_left, List.flatMap_cons, List.getElem?_append_left (by rw [hk]; exact hj)]
  exact hy
theorem flat_len (hk : ∀ x, (C.g x).length = C.k) (l : List α) : (l.flatMap C.g).length = l.length * C.k := by
  induction l with
  | nil => simp
  | cons a A ih => simp only [List.flatMap_cons, List.length_append, hk, ih, List.length_cons, Nat.add_mul, Nat.one_mul]; omega
theorem Lst.form (h : Lst C w v l) (hC : C.Ok) : ∃ a cap, v = .slice a l.length cap ∧ l.length ≤ cap ∧ l.length ≤ 9223372036854775807 ∧ ∀ A x B, l = A ++ x :: B → ∃ b, a = some ⟨b, 0, none⟩ ∧ b < w.heap.size ∧ v.ownBlock = some b ∧
    ∀ j y, (C.g x)[j]? = some y → w.cell? ⟨b, A.length * C.k + j, none⟩ = some y := by
  obtain ⟨a, cap, rfl, h1, h2, h3⟩ := Own.reads h
  refine ⟨a, cap, rfl, h1, h2, fun A x B hl => ?_⟩
  obtain ⟨b, rfl, hb, ho, hc⟩ := h3 (by rw [hl]; simp; omega)
  refine ⟨b, rfl, hb, ho, fun j y hy => hc _ _ ?_⟩
  rw [hl]
  exact flat_at hC.len A x B j y hy
/-- The first k of them, cut away from the rest. -/
theorem Lst.cut (h : Lst C w v l) (hC : C.Ok) {k : Nat} (hk : k ≤ l.length) : ∃ a cap, v = .slice a l.length cap ∧ Lst C w (.slice a k k) (l.take k) := by
  obtain ⟨a, cap, rfl, ho⟩ := Own.cut h hk
  refine ⟨a, cap, rfl, ?_⟩
  have e : (l.flatMap C.g).take (k * C.k) = (l.take k).flatMap C.g := by
    conv => lhs; rw [← List.take_append_drop k l, List.flatMap_append]
    rw [List.take_append_of_le_length (by rw [flat_len hC.len, List.length_take]; exact Nat.mul_le_mul_right _ (by omega)), List.take_of_length_le (by rw [flat_len hC.len, List.length_take]; exact Nat.mul_le_mul_right _ (by omega))]
  unfold Lst
  rw [List.length_take, Nat.min_eq_left hk, ← e]
  exact ho
/-- l[:k], the room behind it kept. -/
theorem Lst.cut_room (h : Lst C w v l) (hC : C.Ok) {k : Nat} (hk : k ≤ l.length) : ∃ a cap, v = .slice a l.length cap ∧ Lst C w (.slice a k cap) (l.take k) := by
  have e : (l.flatMap C.g).take (k * C.k) = (l.take k).flatMap C.g := by
    conv => lhs; rw [← List.take_append_drop k l, List.flatMap_append]
    rw [List.take_append_of_le_length (by rw [flat_len hC.len, List.length_take]; exact Nat.mul_le_mul_right _ (by omega)), List.take_of_length_le (by rw [flat_len hC.len, List.length_take]; exact Nat.mul_le_mul_right _ (by omega))]
  have hle : k * C.k ≤ l.length * C.k := Nat.mul_le_mul_right _ hk
  obtain ⟨hl, hr⟩ := h
  rcases hr with ⟨rfl, hn⟩ | ⟨g, cap, cur, rfl, hg, hn, hm, hcs, ht⟩
  · have hk0 : k = 0 := by omega
    subst hk0
    rw [hn]
    exact ⟨none, 0, rfl, by simp [Lst, Own]⟩
  · refine ⟨_, cap, rfl, ?_, .inr ⟨g, cap, cur, ?_, hg, ?_, hm, hcs, ?_⟩⟩
    · rw [flat_len hC.len, List.length_take]
    · rw [List.length_take, Nat.min_eq_left hk]
    · rw [List.length_take]; omega
    · rw [List.length_take, Nat.min_eq_left hk, ← e, ← ht, List.take_take, Nat.min_eq_left hle]
/-- A block known whole that is the list's cells, and nothing else: a composite literal's. -/
theorem Lst.of_block {g : Nat} {cs : Array Value} (hC : C.Ok) (hb : Blk w g C.e cs) (hcs : cs.toList = l.flatMap C.g) (hl : l.length ≤ 1000000) : Lst C w (.slice (some ⟨g, 0, none⟩) l.length l.length) l := by
  refine ⟨flat_len hC.len l, .inr ⟨g, l.length, cs, rfl, hb, Nat.le_refl _, by unfold maxLen; omega, ?_, ?_⟩⟩
  · rw [← Array.length_toList, hcs, flat_len hC.len]; exact Nat.le_refl _
  · rw [hcs, List.take_of_length_le (by rw [flat_len hC.len]; exact Nat.le_refl _)]
theorem chg_grown {row : Option Nat} (h : w.grownBy w' row) : Chg (fun k => row = some k) w w' :=
  ⟨h.os, h.tape, h.output, h.size, fun k hk hn => h.block k hk (fun e => hn e.symm)⟩

/-- A list in a field was appended to, and stored back. -/
theorem field_put {w0 w4 : World} {G i : Nat} {t : TypeId} {cs : Array Value} {ov v' : Value} {L' : List α} (hb : Blk w G t cs) (ht : t ≠ C.e) (hw : Chg (fun _ => False) w0 w) (hG : w0.heap.size ≤ G) (hk : ∀ k, ov.ownBlock = some k → w0.heap.size ≤ k) (hne : ov.ownBlock ≠ some G)
    (hO : Lst C w4 v' L') (hc : Chg (fun k => ov.ownBlock = some k) w w4) : Blk (w4.setCell ⟨G, i, none⟩ v') G t (cs.setIfInBounds i v') ∧ Lst C (w4.setCell ⟨G, i, none⟩ v') v' L' ∧ Chg (fun _ => False) w0 (w4.setCell ⟨G, i, none⟩ v') := by
  have hb4 := hb.chg hc hne
  have hset : Chg (fun k => k = G) w4 (w4.setCell ⟨G, i, none⟩ v') := Chg.setCell (S := fun k => k = G) (Chg.refl _ w4) (p := ⟨G, i, none⟩) (fun _ => rfl) v'
  refine ⟨hb4.set_ i v', hO.chg hset fun k hk' e => ?_, (hw.trans hc fun k hk' e => ?_).setCell ?_ _⟩
  · obtain ⟨cs', hb'⟩ := hO.typed hk'
    exact hb4.ne_ hb' ht e.symm
  · have := hk k e; omega
  · intro h; simp at h; omega
section
variable {a : Act} {Q : Exit → Act → World → Prop} {K : Act → World → Prop} {ops : Array Oper} {o : Oper} {rest : List Oper} {E : Prop}
theorem run_lst_app (hC : C.Ok) (W : World) (ty : TypeId) (L : List α) (v : Value) (p : α) (hv : Lst C W v L) (b : Nat) (hb : Blk W b C.e (C.g p).toArray) (hL : L.length ≤ 1000000000) :
    ∃ v' w', (Builtin.append_ #[C.s, C.s] ty #[v, .slice (some ⟨b, 0, none⟩) 1 1]).run Tryz.prog W = .ok v' w' ∧ Lst C w' v' (L ++ [p]) ∧ Chg (fun k => v.ownBlock = some k) W w' ∧ (∀ k, v'.ownBlock = some k → v.ownBlock = some k ∨ W.heap.size ≤ k) := by
  obtain ⟨i0, hi, hz0, hz1, hz2⟩ := info_parts hC.info
  have hs := hC.small
  obtain ⟨v', w', hr, hown, hg, hk⟩ := run_own_append (P := Tryz.prog) W C.s C.s ty C.e i0 C.zero C.k C.bytes hC.und hi hz0 hz1 hz2 hC.zsize v L.length (L.flatMap C.g) hv (.slice (some ⟨b, 0, none⟩) 1 1) 1 (C.g p)
    (Src.ofSlice W hC.und ⟨b, 0, none⟩ 1 1 _ (by rw [hC.len, Nat.one_mul]) (World.news_of_block (cs := (C.g p).toArray) (t := C.e) (fr := (0, 0)) hb) (hC.one p)) (by unfold maxLen; omega) (by
      have : (L.length + 1) * C.bytes ≤ 1000000001 * 128 := Nat.mul_le_mul (by omega) hs
      omega)
  refine ⟨v', w', hr, ?_, chg_grown hg, fun k hk' => ?_⟩
  · unfold Lst
    rw [List.flatMap_append, List.length_append, List.length_singleton]
    simpa using hown
  · rcases hk with e | e
    · exact .inl (by rw [← e]; exact hk')
    · rw [e] at hk'; injection hk' with hk'; right; omega
theorem wp_lst_app (hC : C.Ok) (W : World) (s x : Operand) (ho : o.op = .call { callee := .builtin .append, args := #[s, x], argTypes := #[C.s, C.s] }) (L : List α) (v : Value) (p : α) (hs : a.eval s = v) (hv : Lst C W v L)
    (b : Nat) (hx : a.eval x = .slice (some ⟨b, 0, none⟩) 1 1) (hL : L.length ≤ 1000000000) (hb : Blk W b C.e (C.g p).toArray)
    (h : ∀ v' w', Lst C w' v' (L ++ [p]) → Chg (fun k => v.ownBlock = some k) W w' → (∀ k, v'.ownBlock = some k → v.ownBlock = some k ∨ W.heap.size ≤ k) → K (a.put o.dst v') w') : Oper.wp Tryz.prog o a W K Q := by
  obtain ⟨v', w', hr, h2, h3, h4⟩ := run_lst_app hC W o.type L v p hv b hb hL
  unfold Oper.wp execOp
  simp only [ho, resolve, invoke, builtin, Sem.run_bind, Sem.run_pure, Result.andThen_ok, List.map_toArray, List.map_cons, List.map_nil, hs, hx, hr]
  exact h v' w' h2 h3 h4
/-- append(l, x), x in a new slice of one, outside a region that draws. -/
theorem wpList_lst_app (hC : C.Ok) (W : World) (hgd : o.guard = none) (s x : Operand) (ho : o.op = .call { callee := .builtin .append, args := #[s, x], argTypes := #[C.s, C.s] }) (L : List α) (v : Value) (p : α) (hs : a.eval s = v) (hv : Lst C W v L)
    (b : Nat) (hx : a.eval x = .slice (some ⟨b, 0, none⟩) 1 1) (hL : L.length ≤ 1000000000) (hb : Blk W b C.e (C.g p).toArray)
    (h : ∀ v' w', Lst C w' v' (L ++ [p]) → Chg (fun k => v.ownBlock = some k) W w' → (∀ k, v'.ownBlock = some k → v.ownBlock = some k ∨ W.heap.size ≤ k) → wpList Tryz.prog ops Q rest (a.put o.dst v') w') :
    wpList Tryz.prog ops Q (o :: rest) a W :=
  wpList_plain hgd fun _ hK => wp_lst_app hC _ s x ho L v p hs hv b hx hL hb fun v' w' h2 h3 h4 => hK _ _ (h v' w' h2 h3 h4)
/-- .. at a step of a region that draws its order. -/
theorem step_lst_app (hC : C.Ok) (W : World) (hgd : o.guard = none) (s x : Operand) (ho : o.op = .call { callee := .builtin .append, args := #[s, x], argTypes := #[C.s, C.s] }) (L : List α) (v : Value) (p : α) (hs : a.eval s = v) (hv : Lst C W v L)
    (b : Nat) (hx : a.eval x = .slice (some ⟨b, 0, none⟩) 1 1) (hL : L.length ≤ 1000000000) (hb : Blk W b C.e (C.g p).toArray)
    (h : ∀ v' w', Lst C w' v' (L ++ [p]) → Chg (fun k => v.ownBlock = some k) W w' → (∀ k, v'.ownBlock = some k → v.ownBlock = some k ∨ W.heap.size ≤ k) → K (a.put o.dst v') w') :
    if Region.wanted o (yielded ops a.tmps) = true then Oper.wp Tryz.prog o a W K Q else E := by
  have hw : Region.wanted o (yielded ops a.tmps) = true := by simp [Region.wanted, hgd]
  rw [if_pos hw]
  exact wp_lst_app hC W s x ho L v p hs hv b hx hL hb h
end
end
end Go.Proofs.YtahahginmgidjaaGreatDoor
