/-
  The disk: Spoil, Part.
  A disk of the call's own beside blocks that it leaves alone: every call in one form. Plain lemmas over the disk's contracts; no condition.
  Numbers of a disk behind some calls: plain facts. Plain Lean; no condition.
  The program's logs: with, Create, Remove.
-/
import Derived.Test.YtljabmkmngbhkaaGreatDoorZMg10
import Derived.Test.YtljabmkmngbhkaaGreatDoorZWalF
namespace Go.Proofs.YtljabmkmngbhkaaGreatDoor
open Go.RowKit
set_option linter.unusedVariables false
set_option linter.unusedSimpArgs false

end Go.Proofs.YtljabmkmngbhkaaGreatDoor
namespace Go.Proofs.YtljabmkmngbhkaaGreatDoor
open Go.RowKit
set_option linter.unusedVariables false
set_option linter.unusedSimpArgs false

/-- The disk at d has D; it was made behind w0; the blocks of Y are none of its own. -/
def DY (w0 w : World) (d : Nat) (D : DiskV) (Y : Nat → Prop) : Prop :=
  ∃ ids M, DiskAt w d ids D M ∧ (∀ k, M k → w0.heap.size ≤ k) ∧ (∀ k, Y k → k < w.heap.size ∧ ¬ M k) ∧ Chg (fun _ => False) w0 w
/-- The blocks of Y are as they were. -/
def Kept (Y : Nat → Prop) (w w' : World) : Prop := Chg (fun k => ¬ Y k) w w'
section
variable {w0 w w' w1 w2 : World} {d : Nat} {D D' : DiskV} {Y Z : Nat → Prop} {ids : List Nat} {M : Nat → Prop} {g : Nat} {t : TypeId} {cs : Array Value}
theorem Kept.refl (Y : Nat → Prop) (w : World) : Kept Y w w := Chg.refl _ _
theorem Kept.then (h : Kept Y w w1) (h' : Kept Y w1 w2) : Kept Y w w2 := Chg.then h h'
theorem Kept.of_chg (h : Chg (fun _ => False) w w') : Kept Y w w' := h.mono fun _ _ h => h.elim
theorem Kept.mono (h : Kept Y w w') (hZ : ∀ k, Z k → Y k) : Kept Z w w' := Chg.mono h fun k _ hn hz => hn (hZ k hz)
theorem Blk.kept (h : Blk w g t cs) (hk : Kept Y w w') (hg : Y g) : Blk w' g t cs := h.chg hk fun hn => hn hg
theorem Kept.cell (h : Kept Y w w') {p : Addr} (hp : Y p.block) {v : Value} (hv : w.cell? p = some v) : w'.cell? p = some v := (Chg.cell h (World.block_lt_of_cell? w p hv) fun hn => hn hp).trans hv
theorem Lst.kept {α : Type} {C : Codec α} {v : Value} {l : List α} (h : Lst C w v l) (hk : Kept Y w w') (hv : ∀ k, v.ownBlock = some k → Y k) : Lst C w' v l := h.chg hk fun k e hn => hn (hv k e)
theorem DY.of (h : DState w0 w d D) : DY w0 w d D (fun _ => False) := by
  obtain ⟨ids, M, ha, hM, hc⟩ := h
  exact ⟨ids, M, ha, hM, fun _ h => h.elim, hc⟩
theorem DY.lt (h : DY w0 w d D Y) : ∀ k, Y k → k < w.heap.size := by
  obtain ⟨ids, M, ha, hM, hY, hc⟩ := h
  exact fun k hk => (hY k hk).1
theorem DY.frame (h : DY w0 w d D Y) : Chg (fun _ => False) w0 w := by
  obtain ⟨ids, M, ha, hM, hY, hc⟩ := h
  exact hc
theorem DY.ok (h : DY w0 w d D Y) : DiskOk D := by
  obtain ⟨ids, M, ha, hM, hY, hc⟩ := h
  exact ha.1
theorem DY.mono (h : DY w0 w d D Y) (hZ : ∀ k, Z k → Y k) : DY w0 w d D Z := by
  obtain ⟨ids, M, ha, hM, hY, hc⟩ := h
  exact ⟨ids, M, ha, hM, fun k hk => hY k (hZ k hk), hc⟩
theorem DY.same (h : DY w0 w d D Y) (hc : Chg (fun _ => False) w w') : DY w0 w' d D Y := by
  obtain ⟨ids, M, ha, hM, hY, hc0⟩ := h
  exact ⟨ids, M, ha.same hc, hM, fun k hk => ⟨Nat.lt_of_lt_of_le (hY k hk).1 hc.size, (hY k hk).2⟩, hc0.then hc⟩
/-- New blocks may be watched too. -/
theorem DY.grow (h : DY w0 w d D Y) (hc : Chg (fun _ => False) w w') : DY w0 w' d D (fun k => Y k ∨ (w.heap.size ≤ k ∧ k < w'.heap.size)) := by
  obtain ⟨ids, M, ha, hM, hY, hc0⟩ := h
  have hlt := ha.lt
  have hsz := hc.size
  refine ⟨ids, M, ha.same hc, hM, fun k hk => ?_, hc0.then hc⟩
  rcases hk with hk | hk
  · exact ⟨Nat.lt_of_lt_of_le (hY k hk).1 hsz, (hY k hk).2⟩
  · exact ⟨hk.2, fun e => by have := hlt k e; omega⟩
theorem DY.post (hM : ∀ k, M k → w0.heap.size ≤ k) (hY : ∀ k, Y k → k < w.heap.size ∧ ¬ M k) (hc : Chg (fun _ => False) w0 w) (h : DPost w d ids M D' w') : DY w0 w' d D' Y ∧ Kept Y w w' := by
  obtain ⟨ids', ha, _, hc2⟩ := h
  have hs := hc.size
  have hs2 := hc2.size
  refine ⟨⟨ids', _, ha, fun k hk => ?_, fun k hk => ⟨Nat.lt_of_lt_of_le (hY k hk).1 hs2, fun e => ?_⟩, hc.trans hc2 fun k hk e => by have := hM k e; omega⟩, hc2.mono fun k _ e hy => (hY k hy).2 e⟩
  · rcases hk with e | e
    · exact hM k e
    · omega
  · rcases e with e | e
    · exact (hY k hk).2 e
    · have := (hY k hk).1; omega
end
/-- What a call answers and does. -/
def YPost (w0 w : World) (d : Nat) (Y : Nat → Prop) (r : Int × DiskV) (e : Ending) (w' : World) : Prop := e = .returned (.int .i64 r.1) ∧ DY w0 w' d r.2 Y ∧ Kept Y w w'
section
variable (w0 : World) (d : Nat) (D : DiskV) (Y : Nat → Prop) (n : ByteArray) (hn : n.size ≤ maxLen) (hD : DSmall D) (w : World) (h : DY w0 w d D Y)
include hn hD h
theorem y_create : Calls Tryz.prog 149 #[.pointer (some ⟨d, 0, none⟩), .string n] w (YPost w0 w d Y (createD D n)) := by
  obtain ⟨ids, M, ha, hM, hY, hc⟩ := h
  exact (disk_create d ids D M n hn hD.q hD.f w ha).mono fun e w' ⟨he, hp⟩ => ⟨he, DY.post hM hY hc hp⟩
theorem y_append (s : ByteArray) (hs : s.size ≤ 140737488355328) : Calls Tryz.prog 90 #[.pointer (some ⟨d, 0, none⟩), .string n, .string s] w (YPost w0 w d Y (appendD D n s)) := by
  obtain ⟨ids, M, ha, hM, hY, hc⟩ := h
  exact (disk_append d ids D M n s hn hs hD.n hD.q w ha).mono fun e w' ⟨he, hp⟩ => ⟨he, DY.post hM hY hc hp⟩
theorem y_sync : Calls Tryz.prog 92 #[.pointer (some ⟨d, 0, none⟩), .string n] w (YPost w0 w d Y (syncD D n)) := by
  obtain ⟨ids, M, ha, hM, hY, hc⟩ := h
  exact (disk_sync d ids D M n hn hD.q w ha).mono fun e w' ⟨he, hp⟩ => ⟨he, DY.post hM hY hc hp⟩
theorem y_remove : Calls Tryz.prog 126 #[.pointer (some ⟨d, 0, none⟩), .string n] w (YPost w0 w d Y (removeD D n)) := by
  obtain ⟨ids, M, ha, hM, hY, hc⟩ := h
  exact (disk_remove d ids D M n hn hD.q w ha).mono fun e w' ⟨he, hp⟩ => ⟨he, DY.post hM hY hc hp⟩
omit hn in
theorem y_syncdir : Calls Tryz.prog 125 #[.pointer (some ⟨d, 0, none⟩)] w (YPost w0 w d Y (syncDirD D)) := by
  obtain ⟨ids, M, ha, hM, hY, hc⟩ := h
  exact (disk_syncdir d ids D M hD.q w ha).mono fun e w' ⟨he, hp⟩ => ⟨he, DY.post hM hY hc hp⟩
omit hD in
theorem y_read : Calls Tryz.prog 138 #[.pointer (some ⟨d, 0, none⟩), .string n] w fun e w' => e = .returned (.tuple #[.string (readD D n).1, .int .i64 (readD D n).2]) ∧ Chg (fun _ => False) w w' := by
  obtain ⟨ids, M, ha, hM, hY, hc⟩ := h
  exact disk_read d ids D M n hn w ha
end
end Go.Proofs.YtljabmkmngbhkaaGreatDoor
namespace Go.Proofs.YtljabmkmngbhkaaGreatDoor
open Go.RowKit
set_option linter.unusedVariables false
set_option linter.unusedSimpArgs false

theorem p_insN_len (n : ByteArray) (i : Nat) (l : Names) : (insN n i l).length = l.length + 1 := insN_len n i l
theorem p_dropN_le (n : ByteArray) (l : Names) : (dropN n l).length ≤ l.length := List.length_filter_le _ _
theorem p_doOne_len (l : Names) (c : ByteArray × Option Nat) : (doOne l c).length ≤ l.length + 1 := by
  unfold doOne
  cases c.2 with
  | none => have := p_dropN_le c.1 l; simp only; omega
  | some i => have := p_dropN_le c.1 l; simp only [p_insN_len]; omega
theorem p_doStep_len (s : StepV) : ∀ l : Names, (doStep l s).length ≤ l.length + s.length := by
  induction s with
  | nil => simp [doStep]
  | cons c s ih =>
    intro l
    have h1 := p_doOne_len l c
    have h2 := ih (doOne l c)
    show (doStep (doOne l c) s).length ≤ _
    simp; omega
theorem p_doAll_len (q : List StepV) (h : ∀ s ∈ q, s.length ≤ 2) : ∀ l : Names, (doAll l q).length ≤ l.length + 2 * q.length := by
  induction q with
  | nil => simp [doAll]
  | cons s q ih =>
    intro l
    have h1 := p_doStep_len s l
    have h2 := ih (fun t ht => h t (by simp [ht])) (doStep l s)
    have h3 := h s (by simp)
    show (doAll (doStep l s) q).length ≤ _
    simp; omega
def PAsc (l : Names) : Prop := l.Pairwise fun a b => slt a.1 b.1 = true
theorem p_slt_iff {a b : ByteArray} : slt a b = true ↔ a.data.toList < b.data.toList := by simp [slt]
theorem p_slt_trans {a b c : ByteArray} (h : slt a b = true) (h2 : slt b c = true) : slt a c = true := p_slt_iff.2 (List.lt_trans (p_slt_iff.1 h) (p_slt_iff.1 h2))
theorem p_slt_total {a b : ByteArray} (h : ¬ slt a b = true) (hne : a ≠ b) : slt b a = true := by
  rw [p_slt_iff] at h ⊢
  have h1 : b.data.toList ≤ a.data.toList := List.not_lt.1 h
  by_cases hn : b.data.toList < a.data.toList
  · exact hn
  · have h2 : a.data.toList ≤ b.data.toList := List.not_lt.1 hn
    have e := List.le_antisymm h2 h1
    exact absurd (by cases a with | mk x => cases b with | mk y => simp only [ByteArray.mk.injEq]; exact Array.toList_inj.1 e) hne
theorem PAsc.drop {l : Names} (h : PAsc l) (n : ByteArray) : PAsc (dropN n l) := h.sublist List.filter_sublist
theorem PAsc.ins {n : ByteArray} {i : Nat} : ∀ {l : Names}, PAsc l → (∀ p ∈ l, p.1 ≠ n) → PAsc (insN n i l)
  | [], _, _ => by simp [insN, PAsc]
  | q :: r, h, hn => by
    unfold PAsc at h
    rw [List.pairwise_cons] at h
    unfold insN
    split
    · rename_i hs
      unfold PAsc
      rw [List.pairwise_cons, List.pairwise_cons]
      refine ⟨fun p hp => ?_, h⟩
      rcases List.mem_cons.1 hp with rfl | hp
      · exact hs
      · exact p_slt_trans hs (h.1 p hp)
    · rename_i hs
      unfold PAsc
      rw [List.pairwise_cons]
      refine ⟨fun p hp => ?_, PAsc.ins (l := r) h.2 fun p hp => hn p (by simp [hp])⟩
      rcases mem_insN.1 hp with rfl | hp
      · exact p_slt_total hs (hn q (by simp)).symm
      · exact h.1 p hp
theorem PAsc.doOne {l : Names} (h : PAsc l) (c : ByteArray × Option Nat) : PAsc (doOne l c) := by
  unfold Go.Proofs.YtljabmkmngbhkaaGreatDoor.doOne
  cases c.2 with
  | none => exact h.drop _
  | some i => exact (h.drop _).ins fun p hp => (mem_dropN.1 hp).2
theorem PAsc.doStep : ∀ {s : StepV} {l : Names}, PAsc l → PAsc (doStep l s)
  | [], l, h => h
  | c :: s, l, h => PAsc.doStep (s := s) (h.doOne c)
theorem PAsc.doAll : ∀ {q : List StepV} {l : Names}, PAsc l → PAsc (doAll l q)
  | [], l, h => h
  | s :: q, l, h => PAsc.doAll (q := q) h.doStep

/-- Behind n acts. -/
structure PSm (N : Nat) (D : DiskV) : Prop where
  f : D.files.length ≤ N
  n : D.names.length ≤ 2 * N
  l : D.lasts.length + 2 * D.queue.length ≤ 2 * N
  s : ∀ s ∈ D.queue, s.length ≤ 2
  an : PAsc D.names
  al : PAsc D.lasts
section
variable {n : Nat} {D : DiskV}
theorem PSm.up (h : PSm n D) : PSm (n + 1) D := ⟨by have := h.f; omega, by have := h.n; omega, by have := h.l; omega, h.s, h.an, h.al⟩
theorem p_bsm_start (room : Int) : PSm 0 (startD room) := ⟨by simp [startD], by simp [startD], by simp [startD], by simp [startD], List.Pairwise.nil, List.Pairwise.nil⟩
theorem p_bsm_trap (h : PSm n D) : PSm n (trapped D) := ⟨h.f, h.n, h.l, h.s, h.an, h.al⟩
theorem p_bsm_fail (h : PSm n D) (names : Int) (bytes : List Int) : PSm n (failD D names bytes) := by
  have hl := p_doAll_len (D.queue.take (restI names (D.queue.length + 1)).toNat) (fun s hs => h.s s (List.mem_of_mem_take hs)) D.lasts
  have ht : (D.queue.take (restI names (D.queue.length + 1)).toNat).length ≤ D.queue.length := by rw [List.length_take]; omega
  have h1 := h.l
  refine ⟨by simp [failD]; exact h.f, ?_, ?_, by simp [failD], PAsc.doAll h.al, PAsc.doAll h.al⟩
  · show (doAll D.lasts _).length ≤ _
    omega
  · show (doAll D.lasts _).length + 2 * ([] : List StepV).length ≤ _
    simp only [List.length_nil]
    omega
theorem p_bsm_off (h : PSm n D) (b : Bool) : PSm n { D with off := b } := ⟨h.f, h.n, h.l, h.s, h.an, h.al⟩
theorem p_bsm_change {act : DiskV → DiskV} (h : PSm n D) (ha : PSm (n + 1) (act (trapped D))) (c : Bool) : PSm (n + 1) (changeD D c act).2 := by
  unfold changeD
  split
  · refine p_bsm_off (p_bsm_fail ?_ _ _) true
    cases c
    · exact (p_bsm_trap h).up
    · exact ha
  · split
    · exact (p_bsm_trap h).up
    · exact ha
theorem p_bsm_rename1 (s : StepV) (hs : s.length ≤ 2) (h : PSm n D) : PSm (n + 1) (rename1 s D) := by
  have h1 := p_doStep_len s D.names
  have h2 := h.n
  have h3 := h.l
  refine ⟨by have := h.f; show D.files.length ≤ _; omega, ?_, ?_, fun t ht => ?_, h.an.doStep, h.al⟩
  · show (doStep D.names s).length ≤ _
    omega
  · show D.lasts.length + 2 * (D.queue ++ [s]).length ≤ _
    simp
    omega
  · rcases List.mem_append.1 ht with ht | ht
    · exact h.s t ht
    · simp at ht; subst ht; exact hs
theorem p_bsm_setF (h : PSm n D) (i : Nat) (g : FileV → FileV) : PSm n (setF D i g) := ⟨by simp [setF]; exact h.f, h.n, h.l, h.s, h.an, h.al⟩
variable (a b : ByteArray)
theorem p_bsm_create (h : PSm n D) : PSm (n + 1) (createD D a).2 := by
  unfold createD
  split
  · exact h.up
  · split
    · exact h.up
    · split
      · exact h.up
      · split
        · exact h.up
        · refine p_bsm_change h ?_ true
          have ht := p_bsm_trap h
          have h1 := p_doStep_len [(a, some (trapped D).files.length)] (trapped D).names
          simp only [List.length_singleton] at h1
          have h2 := h.n
          have h3 := h.l
          refine ⟨by show ((trapped D).files ++ [_]).length ≤ _; simp; exact h.f, ?_, ?_, fun t ht2 => ?_, ht.an.doStep, ht.al⟩
          · show (doStep (trapped D).names _).length ≤ _
            have : (trapped D).names.length = D.names.length := rfl
            omega
          · show (trapped D).lasts.length + 2 * ((trapped D).queue ++ [_]).length ≤ _
            have e1 : (trapped D).lasts.length = D.lasts.length := rfl
            have e2 : (trapped D).queue.length = D.queue.length := rfl
            simp
            omega
          · have ht3 : t ∈ (trapped D).queue ++ [[(a, some (trapped D).files.length)]] := ht2
            rcases List.mem_append.1 ht3 with ht3 | ht3
            · exact h.s t ht3
            · simp at ht3; subst ht3; simp
theorem p_bsm_append (h : PSm n D) : PSm (n + 1) (appendD D a b).2 := by
  unfold appendD
  split
  · exact h.up
  · split
    · split
      · exact h.up
      · exact p_bsm_change h (p_bsm_setF (p_bsm_trap h) _ _).up true
    · exact h.up
theorem p_bsm_sync (h : PSm n D) : PSm (n + 1) (syncD D a).2 := by
  unfold syncD
  split
  · exact h.up
  · split
    · exact p_bsm_change h (p_bsm_setF (p_bsm_trap h) _ _).up false
    · exact h.up
theorem p_bsm_syncdir (h : PSm n D) : PSm (n + 1) (syncDirD D).2 := by
  unfold syncDirD
  split
  · exact h.up
  · refine p_bsm_change h ?_ false
    have ht := p_bsm_trap h
    exact ⟨by have := ht.f; show (trapped D).files.length ≤ _; omega, by have := ht.n; show (trapped D).names.length ≤ _; omega, by have := ht.n; show (trapped D).names.length + 2 * ([] : List StepV).length ≤ _; simp only [List.length_nil]; omega, by simp [syncDirA], ht.an, ht.an⟩
theorem p_bsm_remove (h : PSm n D) : PSm (n + 1) (removeD D a).2 := by
  unfold removeD
  split
  · exact h.up
  · split
    · exact p_bsm_change h (p_bsm_rename1 _ (by simp) (p_bsm_trap h)) true
    · exact h.up
end
end Go.Proofs.YtljabmkmngbhkaaGreatDoor
namespace Go.Proofs.YtljabmkmngbhkaaGreatDoor
open Go.RowKit
set_option linter.unusedVariables false
set_option linter.unusedSimpArgs false

theorem logN_some (n : Nat) : (logN n).toList.isEmpty = false := str_some (show 0 < (logN n).size by show 0 < 12; omega)
set_option maxRecDepth 100000 in
set_option maxHeartbeats 2000000 in
theorem wal_with_g (n : Int) (nm : ByteArray) (hne : nm.toList.isEmpty = false) (K : Nat) (caps : Array Value) (P : Value → World → Prop) (Q : Int → World → Prop) (w : World) (hnm : Calls Tryz.prog 167 #[.int .i64 n] w fun e w' => e = .returned (.string nm) ∧ Chg (fun _ => False) w w')
    (hcf : ∀ W : World, (callFunc K (#[.string nm] ++ caps)).run Tryz.prog W = .ok (.enter K (#[.string nm] ++ caps)) W)
    (h1 : ∀ W, Chg (fun _ => False) w W → Calls Tryz.prog K (#[.string nm] ++ caps) W fun e w' => ∃ v, e = .returned v ∧ P v w')
    (h2 : ∀ v w', P v w' → Calls Tryz.prog 168 #[v] w' fun e w'' => ∃ m : Int, e = .returned (.int .i64 m) ∧ Q m w'') :
    Calls Tryz.prog 85 #[.int .i64 n, .func (.func K) #[] caps] w fun e w' => ∃ m : Int, e = .returned (.int .i64 m) ∧ Q m w' := by
  have H1 := Lib.hid h1
  have H2 := Lib.hid h2
  have HNM := Lib.hid hnm
  clear h1 h2 hnm
  go_enter Tryz.func85, Tryz.ntmps85
  go_wp2_with fail
  refine HNM.out.mono ?_
  rintro e w1 ⟨rfl, hc1⟩
  have hcall := H1.out w1 hc1
  have HCALL := Lib.hid hcall
  clear hcall hc1
  go_wp2_with fail
  refine HCALL.out.mono ?_
  rintro e w2 ⟨v, rfl, hp⟩
  have hcall := H2.out v w2 hp
  have HCALL2 := Lib.hid hcall
  clear hcall hp
  go_wp2_with fail
  refine HCALL2.out.mono ?_
  rintro e w3 ⟨m, rfl, hq⟩
  have HQ := Lib.hid hq
  clear hq
  go_wp2_with fail
  go_ret
  exact ⟨m, rfl, HQ.out⟩
theorem PSm.small {m : Nat} {D : DiskV} (h : PSm m D) (hm : m ≤ 100000) : DSmall D := ⟨by have := h.l; omega, by have := h.f; omega, by have := h.n; omega⟩
theorem logN_size (n : Nat) : (logN n).size ≤ maxLen := by show 12 ≤ maxLen; unfold maxLen; omega
def createW (D : DiskV) (n : ByteArray) : Int × DiskV := if (createD D n).1 ≠ 0 then createD D n else syncDirD (createD D n).2
set_option maxRecDepth 100000 in
set_option maxHeartbeats 2000000 in
theorem create_n (n : ByteArray) (d bd : Nat) (w : World) (hb : Blk w bd 36 #[.pointer (some ⟨d, 0, none⟩)]) :
    Calls Tryz.prog 153 #[.string n, .pointer (some ⟨bd, 0, none⟩)] w fun e w' => ∃ v, e = .returned v ∧ ∃ g bn, v = .slice (some ⟨g, 0, none⟩) 2 2 ∧ Blk w' g 53 #[.func (.func 154) #[] #[.pointer (some ⟨bd, 0, none⟩), .pointer (some ⟨bn, 0, none⟩)], .func (.func 125) #[.pointer (some ⟨d, 0, none⟩)] #[]] ∧ Blk w' bn 9 #[.string n] ∧ w.heap.size ≤ g ∧ Chg (fun _ => False) w w' := by
  have hlt := hb.lt
  have x0 := hb.cell 0
  simp at x0
  go_enter Tryz.func153, Tryz.ntmps153
  go_wp2_with fail
  go_ret
  exact ⟨_, rfl, _, _, rfl, Blk.new1 w _ _ _, (Blk.new w _ _).alloc _, by omega, ((Chg.refl _ _).alloc _).alloc _⟩
set_option maxRecDepth 100000 in
set_option maxHeartbeats 2000000 in
theorem create_a (n : ByteArray) (hn : n.size ≤ maxLen) (d bd bn : Nat) (D : DiskV) (Y : Nat → Prop) (w0 w : World) (hD : DSmall D) (h : DY w0 w d D Y) (hb : Blk w bd 36 #[.pointer (some ⟨d, 0, none⟩)]) (hbn : Blk w bn 9 #[.string n]) :
    Calls Tryz.prog 154 #[.pointer (some ⟨bd, 0, none⟩), .pointer (some ⟨bn, 0, none⟩)] w (YPost w0 w d Y (createD D n)) := by
  have hc := y_create w0 d D Y n hn hD w h
  have x0 := hb.cell 0
  have x1 := hbn.cell 0
  simp at x0 x1
  have HC := Lib.hid hc
  clear hc h hb hbn hD
  go_enter Tryz.func154, Tryz.ntmps154
  go_wp2_with fail
  refine HC.out.mono ?_
  rintro e w1 ⟨rfl, hd⟩
  have HD := Lib.hid hd
  clear hd
  go_wp2_with fail
  go_ret
  exact ⟨rfl, HD.out⟩
set_option maxRecDepth 100000 in
set_option maxHeartbeats 2000000 in
theorem wal_create_g (n : Int) (nm : ByteArray) (hNE : nm.toList.isEmpty = false) (hnm : nm.size ≤ maxLen) (m : Nat) (d : Nat) (D : DiskV) (Y : Nat → Prop) (w0 w : World) (hD : PSm m D) (hm : m ≤ 10000) (h : DY w0 w d D Y) (hNM : ∀ W, Chg (fun _ => False) w W → Calls Tryz.prog 167 #[.int .i64 n] W fun e w' => e = .returned (.string nm) ∧ Chg (fun _ => False) W w') :
    Calls Tryz.prog 71 #[.pointer (some ⟨d, 0, none⟩), .int .i64 n] w (YPost w0 w d Y (createW D nm)) := by
  obtain ⟨w1, hw1⟩ : ∃ w1, w1 = w.alloc (.cells #[.pointer (some ⟨d, 0, none⟩)] 36) := ⟨_, rfl⟩
  have hc1 : Chg (fun _ => False) w w1 := by rw [hw1]; exact cgS
  have hbd : Blk w1 w.heap.size 36 #[.pointer (some ⟨d, 0, none⟩)] := by rw [hw1]; exact Blk.new w _ _
  have hwith := wal_with_g n nm hNE 153 #[.pointer (some ⟨w.heap.size, 0, none⟩)]
    (fun v w' => ∃ g bn, v = .slice (some ⟨g, 0, none⟩) 2 2 ∧ Blk w' g 53 #[.func (.func 154) #[] #[.pointer (some ⟨w.heap.size, 0, none⟩), .pointer (some ⟨bn, 0, none⟩)], .func (.func 125) #[.pointer (some ⟨d, 0, none⟩)] #[]] ∧ Blk w' bn 9 #[.string nm] ∧ w1.heap.size ≤ g ∧ Chg (fun _ => False) w1 w')
    (fun k w' => k = (createW D nm).1 ∧ DY w0 w' d (createW D nm).2 Y ∧ Kept Y w1 w') w1 (hNM w1 hc1) (enters _ _ (by kernel_rfl))
    (fun W hW => (create_n nm d w.heap.size W (hbd.chg hW (by simp))).mono fun e w' ⟨v, he, g, bn, h1, h2, h3, h5, h4⟩ => ⟨v, he, g, bn, h1, h2, h3, Nat.le_trans hW.size h5, hW.then h4⟩)
    (fun v w' ⟨g, bn, hv, hg, hbn, hgw, hc⟩ => by
      subst hv
      have hY := h.grow (hc1.then hc)
      have hlg := hg.lt
      have hln := hbn.lt
      have hgY : ∀ k, w.heap.size ≤ k → k < w'.heap.size → (fun k => Y k ∨ (w.heap.size ≤ k ∧ k < w'.heap.size)) k := fun k a b => .inr ⟨a, b⟩
      have hbd' := hbd.chg hc (by simp)
      refine (wal_first2 g 154 125 #[] #[.pointer (some ⟨w.heap.size, 0, none⟩), .pointer (some ⟨bn, 0, none⟩)] #[.pointer (some ⟨d, 0, none⟩)] #[]
        (fun k W => k = (createD D nm).1 ∧ DY w0 W d (createD D nm).2 (fun k => Y k ∨ (w.heap.size ≤ k ∧ k < w'.heap.size)) ∧ Kept (fun k => Y k ∨ (w.heap.size ≤ k ∧ k < w'.heap.size)) w' W)
        (fun k W => (createD D nm).1 = 0 ∧ k = (syncDirD (createD D nm).2).1 ∧ DY w0 W d (syncDirD (createD D nm).2).2 (fun k => Y k ∨ (w.heap.size ≤ k ∧ k < w'.heap.size)) ∧ Kept (fun k => Y k ∨ (w.heap.size ≤ k ∧ k < w'.heap.size)) w' W)
        w' hg (enters _ _ (by kernel_rfl)) (enters _ _ (by kernel_rfl)) ?_ ?_ ?_).mono ?_
      · exact (create_a nm hnm d w.heap.size bn D _ w0 w' (hD.small (by omega)) hY hbd' hbn).mono fun e W ⟨he, hd, hk⟩ => ⟨_, he, rfl, hd, hk⟩
      · rintro _ W ⟨_, hd, hk⟩
        exact hg.kept hk (.inr ⟨Nat.le_trans hc1.size hgw, hlg⟩)
      · rintro W ⟨h0, hd, hk⟩
        exact (y_syncdir w0 d _ _ ((p_bsm_create nm hD).small (by omega)) W hd).mono fun e W' ⟨he, hd', hk'⟩ => ⟨_, he, h0.symm, rfl, hd', hk.then hk'⟩
      · rintro e W ⟨k, he, hk⟩
        refine ⟨k, he, ?_⟩
        rcases hk with ⟨hne, rfl, hd, hkp⟩ | ⟨h0, rfl, hd, hkp⟩
        · unfold createW
          rw [if_pos hne]
          exact ⟨rfl, hd.mono fun k hk => .inl hk, (Kept.of_chg hc).then (hkp.mono fun k hk => .inl hk)⟩
        · unfold createW
          rw [if_neg (by rw [h0]; simp)]
          exact ⟨rfl, hd.mono fun k hk => .inl hk, (Kept.of_chg hc).then (hkp.mono fun k hk => .inl hk)⟩)
  have HWITH := Lib.hid hwith
  have HW1 := Lib.hid hw1
  have HC1 := Lib.hid hc1
  clear hwith hw1 hc1 hbd h hD
  go_enter Tryz.func71, Tryz.ntmps71
  go_upto_region 1 with fail
  rw [← HW1.out]
  go_wp2_with fail
  refine HWITH.out.mono ?_
  rintro e w2 ⟨k, rfl, rfl, hd, hk⟩
  have HD := Lib.hid hd
  have HK := Lib.hid ((Kept.of_chg HC1.out).then hk)
  clear hd hk
  go_wp2_with fail
  go_ret
  exact ⟨rfl, HD.out, HK.out⟩
theorem wal_create (n m : Nat) (hn : n < 10) (d : Nat) (D : DiskV) (Y : Nat → Prop) (w0 w : World) (hD : PSm m D) (hm : m ≤ 10000) (h : DY w0 w d D Y) :
    Calls Tryz.prog 71 #[.pointer (some ⟨d, 0, none⟩), .int .i64 (n : Int)] w (YPost w0 w d Y (createW D (logN n))) :=
  wal_create_g (n : Int) (logN n) (logN_some n) (logN_size n) m d D Y w0 w hD hm h fun W _ => wal_name n hn W
end Go.Proofs.YtljabmkmngbhkaaGreatDoor
