/-
  The disk and the document's, side by side.
  Logs of every number: the program's and the document's calls, over both disks side by side.
  The document's logs, over both disks side by side.
-/
import Derived.Test.YtjfbcjmnjlehaaaGreatDoorZMg32
import Derived.Test.YtjfbcjmnjlehaaaGreatDoorZRdI
import Derived.Test.YtjfbcjmnjlehaaaGreatDoorZRdL
import Derived.Test.YtjfbcjmnjlehaaaGreatDoorZRdN
import Derived.Test.YtjfbcjmnjlehaaaGreatDoorZRdO
import Derived.Test.YtjfbcjmnjlehaaaGreatDoorZMg24
import Derived.Test.YtjfbcjmnjlehaaaGreatDoorZMg19
namespace Go.Proofs.YtjfbcjmnjlehaaaGreatDoor
open Go.RowKit
set_option linter.unusedVariables false
set_option linter.unusedSimpArgs false

/-- Both disks, of the call's own, apart; the blocks X are kept by the document's; the blocks Y lie beside both, and hold what they held. -/
def Both (w0 w : World) (d r : Nat) (Y : Nat → Obj → Prop) (D1 D2 : DiskV) (X : Nat → Prop) : Prop :=
  ∃ ids Md Mr, DiskAt w d ids D1 Md ∧ RAt w r D2 Mr ∧ (∀ k, Md k → ¬ Mr k) ∧ (∀ k, Md k ∨ Mr k → w0.heap.size ≤ k) ∧ Chg (fun _ => False) w0 w ∧ (∀ k, X k → Mr k) ∧ ∀ k o, Y k o → w.heap[k]? = some o ∧ ¬ Md k ∧ ¬ Mr k
theorem heap_lt {w : World} {k : Nat} {o : Obj} (h : w.heap[k]? = some o) : k < w.heap.size := (Array.getElem?_eq_some_iff.1 h).1
section
variable {w0 w w' : World} {d r : Nat} {Y : Nat → Obj → Prop} {D1 D2 : DiskV} {X : Nat → Prop}
theorem Both.frame (h : Both w0 w d r Y D1 D2 X) : Chg (fun _ => False) w0 w := by
  obtain ⟨_, _, _, _, _, _, _, hc, _⟩ := h
  exact hc
theorem Both.holds (h : Both w0 w d r Y D1 D2 X) {k : Nat} {o : Obj} (hk : Y k o) : w.heap[k]? = some o := by
  obtain ⟨_, _, _, _, _, _, _, _, _, hy⟩ := h
  exact (hy k o hk).1
theorem Both.same (h : Both w0 w d r Y D1 D2 X) (hc : Chg (fun _ => False) w w') : Both w0 w' d r Y D1 D2 X := by
  obtain ⟨ids, Md, Mr, hd, hr, h1, h2, h3, h4, h5⟩ := h
  exact ⟨ids, Md, Mr, hd.same hc, hr.same hc, h1, h2, h3.then hc, h4, fun k o hk => ⟨(hc.block k (heap_lt (h5 k o hk).1) (by simp)).trans (h5 k o hk).1, (h5 k o hk).2⟩⟩
theorem Both.drop (h : Both w0 w d r Y D1 D2 X) : Both w0 w d r (fun _ _ => False) D1 D2 (fun _ => False) := by
  obtain ⟨ids, Md, Mr, hd, hr, h1, h2, h3, h4, h5⟩ := h
  exact ⟨ids, Md, Mr, hd, hr, h1, h2, h3, fun k hk => hk.elim, fun k o hk => hk.elim⟩
theorem Both.disk (h : Both w0 w d r Y D1 D2 X) : ∃ ids Md, DiskAt w d ids D1 Md ∧ (∀ k, X k → ¬ Md k) ∧ ∀ D' w', DPost w d ids Md D' w' → Both w0 w' d r Y D' D2 X := by
  obtain ⟨ids, Md, Mr, hd, hr, h1, h2, h3, h4, h5⟩ := h
  refine ⟨ids, Md, hd, fun k hk hm => h1 k hm (h4 k hk), fun D' w' hp => ?_⟩
  obtain ⟨ids', ha, _, hc⟩ := hp
  have hs := h3.size
  refine ⟨ids', _, Mr, ha, hr.chg hc fun k hk hm => h1 k hm hk, fun k hk hm => ?_, fun k hk => ?_, h3.trans hc fun k hk e => by have := h2 k (.inl e); omega, h4, fun k o hk => ?_⟩
  · rcases hk with e | e
    · exact h1 k e hm
    · have := hr.lt k hm; omega
  · rcases hk with (e | e) | e
    · exact h2 k (.inl e)
    · omega
    · exact h2 k (.inr e)
  · obtain ⟨a, b, c⟩ := h5 k o hk
    have hkl := heap_lt a
    refine ⟨(hc.block k hkl b).trans a, fun e => ?_, c⟩
    rcases e with e | e
    · exact b e
    · omega
theorem Both.ref (h : Both w0 w d r Y D1 D2 X) : ∃ Mr, RAt w r D2 Mr ∧ (∀ k, X k → Mr k) ∧ ∀ D' w', RPost w r Mr D' w' → Both w0 w' d r Y D1 D' X := by
  obtain ⟨ids, Md, Mr, hd, hr, h1, h2, h3, h4, h5⟩ := h
  refine ⟨Mr, hr, h4, fun D' w' hp => ?_⟩
  obtain ⟨ha, hc⟩ := hp
  have hs := h3.size
  refine ⟨ids, Md, _, hd.chg hc fun k hk hm => h1 k hk hm, ha, fun k hk hm => ?_, fun k hk => ?_, h3.trans hc fun k hk e => by have := h2 k (.inr e); omega, fun k hk => .inl (h4 k hk), fun k o hk => ?_⟩
  · rcases hm with e | e
    · exact h1 k hk e
    · have := hd.lt k hk; omega
  · rcases hk with e | e | e
    · exact h2 k (.inl e)
    · exact h2 k (.inr e)
    · omega
  · obtain ⟨a, b, c⟩ := h5 k o hk
    have hkl := heap_lt a
    refine ⟨(hc.block k hkl c).trans a, b, fun e => ?_⟩
    rcases e with e | e
    · exact c e
    · omega
/-- Newer blocks are given to the document's disk to keep, others are watched. -/
theorem Both.keep {Z : Nat → Obj → Prop} (h : Both w0 w d r (fun _ _ => False) D1 D2 (fun _ => False)) (hc : Chg (fun _ => False) w w') (hX : ∀ k, X k → w.heap.size ≤ k ∧ k < w'.heap.size) (hZ : ∀ k o, Z k o → w.heap.size ≤ k ∧ w'.heap[k]? = some o ∧ ¬ X k) : Both w0 w' d r Z D1 D2 X := by
  obtain ⟨ids, Md, Mr, hd, hr, h1, h2, h3, h4, _⟩ := h
  have hs := h3.size
  have hs2 := hc.size
  refine ⟨ids, Md, fun k => Mr k ∨ X k, hd.same hc, (hr.same hc).more (fun k hk => .inl hk) (fun k hk => ?_), fun k hk hm => ?_, fun k hk => ?_, h3.then hc, fun k hk => .inr hk, fun k o hk => ?_⟩
  · rcases hk with e | e
    · have := hr.lt k e; omega
    · exact (hX k e).2
  · rcases hm with e | e
    · exact h1 k hk e
    · have := hd.lt k hk; have := (hX k e).1; omega
  · rcases hk with e | e | e
    · exact h2 k (.inl e)
    · exact h2 k (.inr e)
    · have := (hX k e).1; omega
  · obtain ⟨a, b, c⟩ := hZ k o hk
    refine ⟨b, fun e => by have := hd.lt k e; omega, fun e => ?_⟩
    rcases e with e | e
    · have := hr.lt k e; omega
    · exact c e
/-- The document's disk: the power is on. -/
theorem Both.roff (h : Both w0 w d r Y D1 D2 X) : w.cell? ⟨r, 5, none⟩ = some (.bool D2.off) ∧ w.frozen? ⟨r, 5, none⟩ = false ∧ Both w0 (w.setCell ⟨r, 5, none⟩ (.bool false)) d r Y D1 { D2 with off := false } X := by
  obtain ⟨Mr, ha, _, hp⟩ := h.ref
  obtain ⟨hok, y, hin, hce⟩ := ha
  have hset : Chg (fun k => k = r) w (w.setCell ⟨r, 5, none⟩ (.bool false)) := Chg.setOwn (Chg.refl _ _) _ _
  have hb := hin.blk.set_ 5 (.bool false)
  have hr := hin.setR (D' := { D2 with off := false }) hset (by simpa [rCells] using hb) rfl rfl rfl rfl
  exact ⟨hin.blk.cell 5, hin.blk.frozen 5, hp _ _ (RPost.same ⟨off_ok hok false, y, hr, hce⟩ hin.lt (hset.mono fun k _ e => by rw [e]; exact hin.mine r (.inl rfl)))⟩
theorem Both.ron (h : Both w0 w d r Y D1 D2 X) : (∃ a b c, w.cell? ⟨r, 5, none⟩ = some (.bool a) ∧ w.cell? ⟨r, 6, none⟩ = some (.int .i64 b) ∧ w.cell? ⟨r, 9, none⟩ = some (.int .i64 c)) ∧ (w.frozen? ⟨r, 5, none⟩ = false ∧ w.frozen? ⟨r, 6, none⟩ = false ∧ w.frozen? ⟨r, 9, none⟩ = false) ∧
    Both w0 (((w.setCell ⟨r, 5, none⟩ (.bool false)).setCell ⟨r, 6, none⟩ (.int .i64 0)).setCell ⟨r, 9, none⟩ (.int .i64 0)) d r Y D1 (onD D2) X := by
  obtain ⟨Mr, ha, _, hp⟩ := h.ref
  obtain ⟨hok, y, hin, hce⟩ := ha
  obtain ⟨_, _, _, _, _, c5, c6, _, _, c9⟩ := rin_cells hin
  have hset : Chg (fun k => k = r) w (((w.setCell ⟨r, 5, none⟩ (.bool false)).setCell ⟨r, 6, none⟩ (.int .i64 0)).setCell ⟨r, 9, none⟩ (.int .i64 0)) := Chg.setOwn (Chg.setOwn (Chg.setOwn (Chg.refl _ _) _ _) _ _) _ _
  have hb := ((hin.blk.set_ 5 (.bool false)).set_ 6 (.int .i64 0)).set_ 9 (.int .i64 0)
  have hr := hin.setR (D' := onD D2) hset (by simpa [rCells, onD] using hb) rfl rfl rfl rfl
  exact ⟨⟨_, _, _, c5, c6, c9⟩, ⟨hin.blk.frozen 5, hin.blk.frozen 6, hin.blk.frozen 9⟩, hp _ _ (RPost.same ⟨on_ok hok, y, hr, fun hne => absurd rfl hne⟩ hin.lt (hset.mono fun k _ e => by rw [e]; exact hin.mine r (.inl rfl)))⟩
theorem rints_src {w : World} {v : Value} {l : List Int} (h : RInts w v l) : Src Tryz.prog 1 33 v l.length (intCells l) w := by
  obtain ⟨a, cap, rfl, hn, hb, hr⟩ := h
  cases a with
  | none =>
    have hz : l.length = 0 := by
      rcases Nat.eq_zero_or_pos l.length with h0 | h0
      · exact h0
      · obtain ⟨b, off, hb, _⟩ := hr h0; cases hb
    have hnil : l = [] := List.eq_nil_of_length_eq_zero hz
    subst hnil
    exact Src.ofNil _ Tryz.underlying33 cap
  | some ad =>
    refine Src.ofSlice _ Tryz.underlying33 ad l.length cap _ (by simp [intCells]) (fun j u hu => ?_) (intCells_one l)
    unfold intCells at hu
    rw [List.getElem?_map] at hu
    obtain ⟨x, hx, rfl⟩ := Option.map_eq_some_iff.1 hu
    have hj := (List.getElem?_eq_some_iff.1 hx).1
    obtain ⟨b, off, he, hc⟩ := hr (by omega)
    cases he
    have e : (⟨b, off, none⟩ : Addr).add j = ⟨b, off + j, none⟩ := by rw [Addr.add_lit]
    rw [e]
    exact hc j x hx
end
section
variable (w0 : World) (d r : Nat) (Y : Nat → Obj → Prop) (D1 D2 : DiskV) (X : Nat → Prop) (N : Nat) (hN : N ≤ 1000) (n s : ByteArray) (hn : n.size ≤ maxLen) (hs : s.size ≤ 140737488355328) (w : World) (h : Both w0 w d r Y D1 D2 X)
include h
theorem bd_create (hb : BSm N D1) (hN : N ≤ 1000) (hn : n.size ≤ maxLen) : Calls Tryz.prog 31 #[.pointer (some ⟨d, 0, none⟩), .string n] w fun e w' => e = .returned (.int .i64 (createD D1 n).1) ∧ Both w0 w' d r Y (createD D1 n).2 D2 X := by
  obtain ⟨ids, Md, ha, _, hp⟩ := h.disk
  have h1 := hb.f; have h2 := hb.l
  exact (disk_create d ids D1 Md n hn (by omega) (by omega) w ha).mono fun e w' ⟨he, hq⟩ => ⟨he, hp _ _ hq⟩
theorem br_create (hb : BSm N D2) (hN : N ≤ 1000) : Calls Tryz.prog 33 #[.pointer (some ⟨r, 0, none⟩), .string n] w fun e w' => e = .returned (.int .i64 (createD D2 n).1) ∧ Both w0 w' d r Y D1 (createD D2 n).2 X := by
  obtain ⟨Mr, ha, _, hp⟩ := h.ref
  have h1 := hb.f; have h2 := hb.n
  exact (rd_create r D2 Mr n (hb.rsm hN) (by omega) (by omega) w ha).mono fun e w' ⟨he, hq⟩ => ⟨he, hp _ _ hq⟩
theorem bd_append (hb : BSm N D1) (hN : N ≤ 1000) (hn : n.size ≤ maxLen) (hs : s.size ≤ 140737488355328) : Calls Tryz.prog 39 #[.pointer (some ⟨d, 0, none⟩), .string n, .string s] w fun e w' => e = .returned (.int .i64 (appendD D1 n s).1) ∧ Both w0 w' d r Y (appendD D1 n s).2 D2 X := by
  obtain ⟨ids, Md, ha, _, hp⟩ := h.disk
  have h1 := hb.n; have h2 := hb.l
  exact (disk_append d ids D1 Md n s hn hs (by omega) (by omega) w ha).mono fun e w' ⟨he, hq⟩ => ⟨he, hp _ _ hq⟩
theorem br_append (hb : BSm N D2) (hN : N ≤ 1000) (hs : s.size ≤ 140737488355328) : Calls Tryz.prog 43 #[.pointer (some ⟨r, 0, none⟩), .string n, .string s] w fun e w' => e = .returned (.int .i64 (appendD D2 n s).1) ∧ Both w0 w' d r Y D1 (appendD D2 n s).2 X := by
  obtain ⟨Mr, ha, _, hp⟩ := h.ref
  exact (rd_append r D2 Mr n s hs (hb.rsm hN).small w ha).mono fun e w' ⟨he, hq⟩ => ⟨he, hp _ _ hq⟩
theorem bd_sync (hb : BSm N D1) (hN : N ≤ 1000) (hn : n.size ≤ maxLen) : Calls Tryz.prog 41 #[.pointer (some ⟨d, 0, none⟩), .string n] w fun e w' => e = .returned (.int .i64 (syncD D1 n).1) ∧ Both w0 w' d r Y (syncD D1 n).2 D2 X := by
  obtain ⟨ids, Md, ha, _, hp⟩ := h.disk
  have h2 := hb.l
  exact (disk_sync d ids D1 Md n hn (by omega) w ha).mono fun e w' ⟨he, hq⟩ => ⟨he, hp _ _ hq⟩
theorem br_sync (hb : BSm N D2) (hN : N ≤ 1000) : Calls Tryz.prog 44 #[.pointer (some ⟨r, 0, none⟩), .string n] w fun e w' => e = .returned (.int .i64 (syncD D2 n).1) ∧ Both w0 w' d r Y D1 (syncD D2 n).2 X := by
  obtain ⟨Mr, ha, _, hp⟩ := h.ref
  exact (rd_sync r D2 Mr n (hb.rsm hN).small w ha).mono fun e w' ⟨he, hq⟩ => ⟨he, hp _ _ hq⟩
theorem bd_syncdir (hb : BSm N D1) (hN : N ≤ 1000) : Calls Tryz.prog 32 #[.pointer (some ⟨d, 0, none⟩)] w fun e w' => e = .returned (.int .i64 (syncDirD D1).1) ∧ Both w0 w' d r Y (syncDirD D1).2 D2 X := by
  obtain ⟨ids, Md, ha, _, hp⟩ := h.disk
  have h2 := hb.l
  exact (disk_syncdir d ids D1 Md (by omega) w ha).mono fun e w' ⟨he, hq⟩ => ⟨he, hp _ _ hq⟩
theorem br_syncdir (hb : BSm N D2) (hN : N ≤ 1000) : Calls Tryz.prog 34 #[.pointer (some ⟨r, 0, none⟩)] w fun e w' => e = .returned (.int .i64 (syncDirD D2).1) ∧ Both w0 w' d r Y D1 (syncDirD D2).2 X := by
  obtain ⟨Mr, ha, _, hp⟩ := h.ref
  exact (rd_syncdir r D2 Mr (hb.rsm hN).small w ha).mono fun e w' ⟨he, hq⟩ => ⟨he, hp _ _ hq⟩
theorem bd_rename (hb : BSm N D1) (hN : N ≤ 1000) (hn : n.size ≤ maxLen) (hs : s.size ≤ maxLen) : Calls Tryz.prog 53 #[.pointer (some ⟨d, 0, none⟩), .string n, .string s] w fun e w' => e = .returned (.int .i64 (renameD D1 n s).1) ∧ Both w0 w' d r Y (renameD D1 n s).2 D2 X := by
  obtain ⟨ids, Md, ha, _, hp⟩ := h.disk
  have h2 := hb.l
  exact (disk_rename d ids D1 Md n s hn hs (by omega) w ha).mono fun e w' ⟨he, hq⟩ => ⟨he, hp _ _ hq⟩
theorem br_rename (hb : BSm N D2) (hN : N ≤ 1000) (hs : s.size ≤ maxLen) : Calls Tryz.prog 54 #[.pointer (some ⟨r, 0, none⟩), .string n, .string s] w fun e w' => e = .returned (.int .i64 (renameD D2 n s).1) ∧ Both w0 w' d r Y D1 (renameD D2 n s).2 X := by
  obtain ⟨Mr, ha, _, hp⟩ := h.ref
  exact (rd_rename r D2 Mr n (hb.rsm hN) w ha s hs).mono fun e w' ⟨he, hq⟩ => ⟨he, hp _ _ hq⟩
theorem bd_remove (hb : BSm N D1) (hN : N ≤ 1000) (hn : n.size ≤ maxLen) : Calls Tryz.prog 51 #[.pointer (some ⟨d, 0, none⟩), .string n] w fun e w' => e = .returned (.int .i64 (removeD D1 n).1) ∧ Both w0 w' d r Y (removeD D1 n).2 D2 X := by
  obtain ⟨ids, Md, ha, _, hp⟩ := h.disk
  have h2 := hb.l
  exact (disk_remove d ids D1 Md n hn (by omega) w ha).mono fun e w' ⟨he, hq⟩ => ⟨he, hp _ _ hq⟩
theorem br_remove (hb : BSm N D2) (hN : N ≤ 1000) : Calls Tryz.prog 52 #[.pointer (some ⟨r, 0, none⟩), .string n] w fun e w' => e = .returned (.int .i64 (removeD D2 n).1) ∧ Both w0 w' d r Y D1 (removeD D2 n).2 X := by
  obtain ⟨Mr, ha, _, hp⟩ := h.ref
  exact (rd_remove r D2 Mr n (hb.rsm hN) w ha).mono fun e w' ⟨he, hq⟩ => ⟨he, hp _ _ hq⟩
theorem bd_read (hn : n.size ≤ maxLen) : Calls Tryz.prog 45 #[.pointer (some ⟨d, 0, none⟩), .string n] w fun e w' => e = .returned (.tuple #[.string (readD D1 n).1, .int .i64 (readD D1 n).2]) ∧ Both w0 w' d r Y D1 D2 X := by
  obtain ⟨ids, Md, ha, _, hp⟩ := h.disk
  exact (disk_read d ids D1 Md n hn w ha).mono fun e w' ⟨he, hq⟩ => ⟨he, h.same hq⟩
theorem br_read : Calls Tryz.prog 47 #[.pointer (some ⟨r, 0, none⟩), .string n] w fun e w' => e = .returned (.tuple #[.string (readD D2 n).1, .int .i64 (readD D2 n).2]) ∧ Both w0 w' d r Y D1 D2 X := by
  obtain ⟨Mr, ha, _, hp⟩ := h.ref
  exact (rd_read r D2 Mr n w ha).mono fun e w' ⟨he, hq⟩ => ⟨he, h.same hq⟩
theorem bd_part (hn : n.size ≤ maxLen) (p k : Int) (hp1 : -9223372036854775808 ≤ p) (hp2 : p ≤ 9223372036854775807) (hk1 : -9223372036854775808 ≤ k) (hk2 : k ≤ 9223372036854775807) : Calls Tryz.prog 55 #[.pointer (some ⟨d, 0, none⟩), .string n, .int .i64 p, .int .i64 k] w fun e w' => e = .returned (.tuple #[.string (partD D1 n p k).1, .int .i64 (partD D1 n p k).2]) ∧ Both w0 w' d r Y D1 D2 X := by
  obtain ⟨ids, Md, ha, _, hp⟩ := h.disk
  exact (disk_part d ids D1 Md n p k hn hp1 hp2 hk1 hk2 w ha).mono fun e w' ⟨he, hq⟩ => ⟨he, h.same hq⟩
theorem br_part (p k : Int) (hp1 : -9223372036854775808 ≤ p) (hp2 : p ≤ 9223372036854775807) (hk1 : -9223372036854775808 ≤ k) (hk2 : k ≤ 9223372036854775807) : Calls Tryz.prog 56 #[.pointer (some ⟨r, 0, none⟩), .string n, .int .i64 p, .int .i64 k] w fun e w' => e = .returned (.tuple #[.string (partD D2 n p k).1, .int .i64 (partD D2 n p k).2]) ∧ Both w0 w' d r Y D1 D2 X := by
  obtain ⟨Mr, ha, _, hp⟩ := h.ref
  exact (rd_part r D2 Mr n w ha p k hp1 hp2 hk1 hk2).mono fun e w' ⟨he, hq⟩ => ⟨he, h.same hq⟩
theorem bd_break (k : Int) (hk : k ≤ 9223372036854775807) : Calls Tryz.prog 61 #[.pointer (some ⟨d, 0, none⟩), .int .i64 k] w fun e w' => e = .returned (.tuple #[]) ∧ Both w0 w' d r Y (breakD D1 k) D2 X := by
  obtain ⟨ids, Md, ha, _, hp⟩ := h.disk
  exact (disk_break d ids D1 Md k hk w ha).mono fun e w' ⟨he, hq⟩ => ⟨he, hp _ _ hq⟩
theorem br_break (k : Int) (hk : k ≤ 9223372036854775807) : Calls Tryz.prog 62 #[.pointer (some ⟨r, 0, none⟩), .int .i64 k] w fun e w' => e = .returned (.tuple #[]) ∧ Both w0 w' d r Y D1 (breakD D2 k) X := by
  obtain ⟨Mr, ha, _, hp⟩ := h.ref
  exact (rd_break r D2 Mr w ha k hk).mono fun e w' ⟨he, hq⟩ => ⟨he, hp _ _ hq⟩
theorem bd_on : Calls Tryz.prog 63 #[.pointer (some ⟨d, 0, none⟩)] w fun e w' => e = .returned (.tuple #[]) ∧ Both w0 w' d r Y (onD D1) D2 X := by
  obtain ⟨ids, Md, ha, _, hp⟩ := h.disk
  exact (disk_on d ids D1 Md w ha).mono fun e w' ⟨he, hq⟩ => ⟨he, hp _ _ hq⟩
theorem bd_spoil (hn : n.size ≤ maxLen) (k : Int) (hk1 : -9223372036854775808 ≤ k) (hk2 : k ≤ 9223372036854775807) : Calls Tryz.prog 64 #[.pointer (some ⟨d, 0, none⟩), .string n, .int .i64 k] w fun e w' => e = .returned (.tuple #[]) ∧ Both w0 w' d r Y (spoilD D1 n k) D2 X := by
  obtain ⟨ids, Md, ha, _, hp⟩ := h.disk
  exact (disk_spoil d ids D1 Md n k hn hk1 hk2 w ha).mono fun e w' ⟨he, hq⟩ => ⟨he, hp _ _ hq⟩
theorem br_spoil (k : Int) (hk1 : -9223372036854775808 ≤ k) (hk2 : k ≤ 9223372036854775807) : Calls Tryz.prog 65 #[.pointer (some ⟨r, 0, none⟩), .string n, .int .i64 k] w fun e w' => e = .returned (.tuple #[]) ∧ Both w0 w' d r Y D1 (spoilD D2 n k) X := by
  obtain ⟨Mr, ha, _, hp⟩ := h.ref
  exact (rd_spoil r D2 Mr n k hk1 hk2 w ha).mono fun e w' ⟨he, hq⟩ => ⟨he, hp _ _ hq⟩
end
/-- A slice of ints of the call's own is read. -/
theorem own_rints {w : World} {v : Value} {l : List Int} (h : Own w 3 1 v l.length (intCells l)) (hb : ∀ n ∈ l, -9223372036854775808 ≤ n ∧ n ≤ 9223372036854775807) : RInts w v l := by
  obtain ⟨a, cap, e, _, hn, hr⟩ := h.reads
  refine ⟨a, cap, e, hn, hb, fun hpos => ?_⟩
  obtain ⟨b, hb, _, _, hcell⟩ := hr hpos
  exact ⟨b, 0, hb, fun i x hx => by
    have := hcell i (.int .i64 x) (by unfold intCells; rw [List.getElem?_map, hx]; rfl)
    simpa using this⟩
section
variable (w0 : World) (d r : Nat) (Y : Nat → Obj → Prop) (D1 D2 : DiskV) (N : Nat) (bytes : List Int) (bv : Value) (names k : Int) (w : World) (h : Both w0 w d r Y D1 D2 (fun k => bv.ownBlock = some k)) (hn1 : -9223372036854775808 ≤ names) (hn2 : names ≤ 9223372036854775807) (hk : k ≤ 9223372036854775807)
  (hbb : ∀ n ∈ bytes, -9223372036854775808 ≤ n ∧ n ≤ 9223372036854775807) (hown : Own w 3 1 bv bytes.length (intCells bytes))
include h hn1 hn2 hbb hown
theorem bd_crash (hb : BSm N D1) (hN : N ≤ 1000) : Calls Tryz.prog 57 #[.pointer (some ⟨d, 0, none⟩), .int .i64 names, bv] w fun e w' => e = .returned (.tuple #[]) ∧ Both w0 w' d r Y (crashD D1 names bytes) D2 (fun k => bv.ownBlock = some k) ∧ Own w' 3 1 bv bytes.length (intCells bytes) := by
  obtain ⟨ids, Md, ha, hx, hp⟩ := h.disk
  have h2 := hb.l
  exact (disk_crash d ids D1 Md names bytes bv (by omega) hn1 hn2 w ha (fun W hW => own_rints (hown.chg hW fun k hk => hx k hk) hbb)).mono fun e w' ⟨he, hq⟩ => ⟨he, hp _ _ hq, hown.chg hq.choose_spec.2.2 fun k hk => hx k hk⟩
theorem br_fail (hb : BSm N D2) (hN : N ≤ 1000) : Calls Tryz.prog 58 #[.pointer (some ⟨r, 0, none⟩), .int .i64 names, bv] w fun e w' => e = .returned (.tuple #[]) ∧ Both w0 w' d r Y D1 (failD D2 names bytes) (fun k => bv.ownBlock = some k) := by
  obtain ⟨Mr, ha, hx, hp⟩ := h.ref
  obtain ⟨hok, y, hin, hce⟩ := ha
  refine (rd_fail r D2 y Mr names bytes bv hok (hb.rsm hN).small hn1 hn2 w hin (fun W hW => own_rints (hown.chg hW fun k hk e => ?_) hbb)).mono fun e w' ⟨he, ⟨y', hi⟩, hc⟩ => ⟨he, hp _ _ ⟨⟨fail_ok hok _ _, y', hi, fun hne => absurd rfl hne⟩, hc⟩⟩
  obtain ⟨cs, hb⟩ := hown.typed hk
  rcases e with e | e
  · exact hb.ne_ hin.blk (by decide) e
  · obtain ⟨cs2, hb2⟩ := hin.parts.files.typed e
    exact hb.ne_ hb2 (by decide) rfl
include hk
theorem bd_cut (hl : bytes.length ≤ 17592186044416) : Calls Tryz.prog 59 #[.pointer (some ⟨d, 0, none⟩), .int .i64 k, .int .i64 names, bv] w fun e w' => e = .returned (.tuple #[]) ∧ Both w0 w' d r Y (cutD D1 k names bytes) D2 (fun k => bv.ownBlock = some k) ∧ Own w' 3 1 bv bytes.length (intCells bytes) := by
  obtain ⟨ids, Md, ha, hx, hp⟩ := h.disk
  exact (disk_cut d ids D1 Md k names bytes bv hl hk hn1 hn2 w ha (own_rints hown hbb)).mono fun e w' ⟨he, hq⟩ => ⟨he, hp _ _ hq, hown.chg hq.choose_spec.2.2 fun k hk => hx k hk⟩
theorem br_cut : Calls Tryz.prog 60 #[.pointer (some ⟨r, 0, none⟩), .int .i64 k, .int .i64 names, bv] w fun e w' => e = .returned (.tuple #[]) ∧ Both w0 w' d r Y D1 (cutD D2 k names bytes) (fun k => bv.ownBlock = some k) := by
  obtain ⟨Mr, ha, hx, hp⟩ := h.ref
  exact (rd_cut r D2 Mr w ha k names bytes bv hk hn1 hn2 hbb hown hx).mono fun e w' ⟨he, hq⟩ => ⟨he, hp _ _ hq⟩
end
end Go.Proofs.YtjfbcjmnjlehaaaGreatDoor
namespace Go.Proofs.YtjfbcjmnjlehaaaGreatDoor
open Go.RowKit
set_option linter.unusedVariables false
set_option linter.unusedSimpArgs false

/-- What the program's calls, told of a disk beside watched blocks, do to both. -/
theorem Both.wal {w0 w : World} {d r : Nat} {Y : Nat → Obj → Prop} {D D2 : DiskV} {X : Nat → Prop} (h : Both w0 w d r Y D D2 X) :
    ∃ Z : Nat → Prop, DY w0 w d D Z ∧ ∀ D' w', DY w0 w' d D' Z → Kept Z w w' → Both w0 w' d r Y D' D2 X := by
  obtain ⟨ids, Md, Mr, hd, hr, h1, h2, h3, h4, h5⟩ := h
  refine ⟨fun k => Mr k ∨ ∃ o, Y k o, ⟨ids, Md, hd, fun k hk => h2 k (.inl hk), fun k hk => ?_, h3⟩, fun D' w' hdy hkp => ?_⟩
  · rcases hk with e | ⟨o, e⟩
    · exact ⟨hr.lt k e, fun hm => h1 k hm e⟩
    · exact ⟨heap_lt (h5 k o e).1, (h5 k o e).2.1⟩
  · obtain ⟨ids', Md', hd', hM', hY', hc'⟩ := hdy
    refine ⟨ids', Md', Mr, hd', hr.chg hkp fun k hk hn => hn (.inl hk), fun k hk hm => (hY' k (.inl hm)).2 hk, fun k hk => ?_, hc', h4, fun k o hk => ?_⟩
    · rcases hk with e | e
      · exact hM' k e
      · exact h2 k (.inr e)
    · obtain ⟨a, b, c⟩ := h5 k o hk
      exact ⟨(hkp.block k (heap_lt a) fun hn => hn (.inr ⟨o, hk⟩)).trans a, (hY' k (.inr ⟨o, hk⟩)).2, c⟩
theorem BSm.psm {N : Nat} {D : DiskV} (h : BSm N D) : PSm N D := ⟨h.f, h.n, h.l, h.s, h.an, h.al⟩
/-- The log of a number. -/
def logB (n : Int) : ByteArray := fileB ⟨#[108, 111, 103]⟩ n
theorem logB_size (n : Int) : (logB n).size ≤ 12 := by
  unfold logB fileB
  have : (⟨(fileL (⟨#[108, 111, 103]⟩ : ByteArray).data.toList n).toArray⟩ : ByteArray).size = (fileL (⟨#[108, 111, 103]⟩ : ByteArray).data.toList n).length := by simp [ByteArray.size]
  rw [this]
  rcases fileL_len (k := (⟨#[108, 111, 103]⟩ : ByteArray).data.toList) (n := n) with h | h
  · rw [h]; omega
  · rw [h]; exact Nat.le_refl 12
def orArg (nm : ByteArray) (D : DiskV) (x : Int × DiskV) : Int × DiskV := if nm.toList.isEmpty then (2, D) else x
theorem wal_with_none (n : Int) (f : Value) (w : World) (hnm : Calls Tryz.prog 10 #[.int .i64 n] w fun e w' => e = .returned (.string (logB n)) ∧ Chg (fun _ => False) w w') (he : (logB n).toList.isEmpty = true) :
    Calls Tryz.prog 28 #[.int .i64 n, f] w fun e w' => e = .returned (.int .i64 2) ∧ Chg (fun _ => False) w w' := by
  obtain ⟨nm, hn⟩ : ∃ nm, logB n = nm := ⟨_, rfl⟩
  rw [hn] at hnm he
  have HNM := Lib.hid hnm
  clear hnm hn
  go_enter Tryz.func28, Tryz.ntmps28
  go_wp2_with fail
  refine HNM.out.mono ?_
  rintro e w1 ⟨rfl, hc1⟩
  have HC := Lib.hid hc1
  clear hc1
  go_wp2_with fail
  go_ret
  exact ⟨rfl, HC.out⟩
theorem br_readk (w0 : World) (d r : Nat) (Y : Nat → Obj → Prop) (D1 D2 : DiskV) (X : Nat → Prop) (n : ByteArray) (w : World) (h : Both w0 w d r Y D1 D2 X) : Calls Tryz.prog 47 #[.pointer (some ⟨r, 0, none⟩), .string n] w fun e w' => e = .returned (.tuple #[.string (readD D2 n).1, .int .i64 (readD D2 n).2]) ∧ Chg (fun _ => False) w w' := by
  obtain ⟨Mr, ha, _, hp⟩ := h.ref
  exact rd_read r D2 Mr n w ha
section
variable (w0 : World) (d r : Nat) (Y : Nat → Obj → Prop) (D1 D2 : DiskV) (X : Nat → Prop) (N : Nat) (n : Int) (w : World) (h : Both w0 w d r Y D1 D2 X) (ht : Tab w0) (hn0 : -9223372036854775808 ≤ n) (hn1 : n ≤ 9223372036854775807)
include h ht hn0 hn1
theorem bw_name (W : World) (hW : Chg (fun _ => False) w W) : Calls Tryz.prog 10 #[.int .i64 n] W fun e w' => e = .returned (.string (logB n)) ∧ Chg (fun _ => False) W w' :=
  wal_name_any n hn0 hn1 W (ht.chg (h.frame.then hW))
omit h ht in
theorem br_name (W : World) : Calls Tryz.prog 9 #[.string ⟨#[108, 111, 103]⟩, .int .i64 n] W fun e w' => e = .returned (.string (logB n)) ∧ Chg (fun _ => False) W w' :=
  rf_file ⟨#[108, 111, 103]⟩ n (by decide) hn0 hn1 W
theorem bw_create (hb : BSm N D1) (hN : N ≤ 1000) : Calls Tryz.prog 13 #[.pointer (some ⟨d, 0, none⟩), .int .i64 n] w fun e w' => e = .returned (.int .i64 (orArg (logB n) D1 (createW D1 (logB n))).1) ∧ Both w0 w' d r Y (orArg (logB n) D1 (createW D1 (logB n))).2 D2 X := by
  have hname := bw_name w0 d r Y D1 D2 X n w h ht hn0 hn1
  have hsz := logB_size n
  unfold orArg
  cases he : (logB n).toList.isEmpty with
  | false =>
    rw [if_neg (by decide)]
    obtain ⟨Z, hz, hp⟩ := h.wal
    exact (wal_create_g n (logB n) he (by unfold maxLen; omega) N d D1 Z w0 w hb.psm (by omega) hz hname).mono fun e w' ⟨h1, h2, h3⟩ => ⟨h1, hp _ _ h2 h3⟩
  | true =>
    rw [if_pos rfl]
    have hw := fun W hW => wal_with_none n (.func (.func 29) #[] #[.pointer (some ⟨w.heap.size, 0, none⟩)]) W (hname W hW) he
    have HW := Lib.hid hw
    have H := Lib.hid h
    clear hw h hname he
    go_enter Tryz.func13, Tryz.ntmps13
    go_wp2_with fail
    refine (HW.out _ (by ((repeat (first | exact Chg.refl _ _ | assumption | refine Chg.drewN ?_ _ | refine Chg.drew ?_ | refine Chg.alloc ?_ _ | refine Chg.setCell ?_ (by first | (simp; done) | (simp; omega) | (intro h; simp at h; omega)) _))))).mono ?_
    rintro e w1 ⟨rfl, hc⟩
    have HC := Lib.hid hc
    clear hc
    go_wp2_with fail
    go_ret
    exact ⟨rfl, H.out.same (Chg.then (by ((repeat (first | exact Chg.refl _ _ | assumption | refine Chg.drewN ?_ _ | refine Chg.drew ?_ | refine Chg.alloc ?_ _ | refine Chg.setCell ?_ (by first | (simp; done) | (simp; omega) | (intro h; simp at h; omega)) _)))) HC.out)⟩
theorem bw_remove (hb : BSm N D1) (hN : N ≤ 1000) : Calls Tryz.prog 19 #[.pointer (some ⟨d, 0, none⟩), .int .i64 n] w fun e w' => e = .returned (.int .i64 (orArg (logB n) D1 (removeW D1 (logB n))).1) ∧ Both w0 w' d r Y (orArg (logB n) D1 (removeW D1 (logB n))).2 D2 X := by
  have hname := bw_name w0 d r Y D1 D2 X n w h ht hn0 hn1
  have hsz := logB_size n
  unfold orArg
  cases he : (logB n).toList.isEmpty with
  | false =>
    rw [if_neg (by decide)]
    obtain ⟨Z, hz, hp⟩ := h.wal
    exact (wal_remove_g n (logB n) he (by unfold maxLen; omega) N d D1 Z w0 w hb.psm (by omega) hz hname).mono fun e w' ⟨h1, h2, h3⟩ => ⟨h1, hp _ _ h2 h3⟩
  | true =>
    rw [if_pos rfl]
    have hw := fun W hW => wal_with_none n (.func (.func 49) #[] #[.pointer (some ⟨w.heap.size, 0, none⟩)]) W (hname W hW) he
    have HW := Lib.hid hw
    have H := Lib.hid h
    clear hw h hname he
    go_enter Tryz.func19, Tryz.ntmps19
    go_wp2_with fail
    refine (HW.out _ (by ((repeat (first | exact Chg.refl _ _ | assumption | refine Chg.drewN ?_ _ | refine Chg.drew ?_ | refine Chg.alloc ?_ _ | refine Chg.setCell ?_ (by first | (simp; done) | (simp; omega) | (intro h; simp at h; omega)) _))))).mono ?_
    rintro e w1 ⟨rfl, hc⟩
    have HC := Lib.hid hc
    clear hc
    go_wp2_with fail
    go_ret
    exact ⟨rfl, H.out.same (Chg.then (by ((repeat (first | exact Chg.refl _ _ | assumption | refine Chg.drewN ?_ _ | refine Chg.drew ?_ | refine Chg.alloc ?_ _ | refine Chg.setCell ?_ (by first | (simp; done) | (simp; omega) | (intro h; simp at h; omega)) _)))) HC.out)⟩
theorem bw_append (b : ByteArray) (hbz : b.size ≤ 140737488355328) (hb : BSm N D1) (hN : N ≤ 1000) : Calls Tryz.prog 15 #[.pointer (some ⟨d, 0, none⟩), .int .i64 n, .string b] w fun e w' => e = .returned (.int .i64 (orArg (logB n) D1 (appendW D1 (logB n) b)).1) ∧ Both w0 w' d r Y (orArg (logB n) D1 (appendW D1 (logB n) b)).2 D2 X := by
  have hname := bw_name w0 d r Y D1 D2 X n w h ht hn0 hn1
  have hsz := logB_size n
  unfold orArg
  cases he : (logB n).toList.isEmpty with
  | false =>
    rw [if_neg (by decide)]
    obtain ⟨Z, hz, hp⟩ := h.wal
    exact (wal_append_g n (logB n) he (by unfold maxLen; omega) N b hbz d D1 Z w0 w hb.psm (by omega) hz hname).mono fun e w' ⟨h1, h2, h3⟩ => ⟨h1, hp _ _ h2 h3⟩
  | true =>
    rw [if_pos rfl]
    have hw := fun W hW => wal_with_none n (.func (.func 35) #[] #[.pointer (some ⟨w.heap.size + 1, 0, none⟩), .pointer (some ⟨w.heap.size, 0, none⟩)]) W (hname W hW) he
    have HW := Lib.hid hw
    have H := Lib.hid h
    clear hw h hname he
    go_enter Tryz.func15, Tryz.ntmps15
    go_wp2_with fail
    refine (HW.out _ (by ((repeat (first | exact Chg.refl _ _ | assumption | refine Chg.drewN ?_ _ | refine Chg.drew ?_ | refine Chg.alloc ?_ _ | refine Chg.setCell ?_ (by first | (simp; done) | (simp; omega) | (intro h; simp at h; omega)) _))))).mono ?_
    rintro e w1 ⟨rfl, hc⟩
    have HC := Lib.hid hc
    clear hc
    go_wp2_with fail
    go_ret
    exact ⟨rfl, H.out.same (Chg.then (by ((repeat (first | exact Chg.refl _ _ | assumption | refine Chg.drewN ?_ _ | refine Chg.drew ?_ | refine Chg.alloc ?_ _ | refine Chg.setCell ?_ (by first | (simp; done) | (simp; omega) | (intro h; simp at h; omega)) _)))) HC.out)⟩
/-- What Read tells of a disk. -/
def RdPost (w : World) (D : DiskV) (nm : ByteArray) (e : Ending) (w' : World) : Prop :=
  (nm.toList.isEmpty = true ∧ e = .returned (.tuple #[.slice none 0 0, .bool false, .int .i64 2]) ∧ Chg (fun _ => False) w w') ∨ (nm.toList.isEmpty = false ∧ WRead w (readD D nm).1 (readD D nm).2 e w')
theorem bw_read : Calls Tryz.prog 17 #[.pointer (some ⟨d, 0, none⟩), .int .i64 n] w (RdPost w D1 (logB n)) := by
  have hname := bw_name w0 d r Y D1 D2 X n w h ht hn0 hn1
  have hsz := logB_size n
  cases he : (logB n).toList.isEmpty with
  | false =>
    obtain ⟨Z, hz, hp⟩ := h.wal
    exact (wal_read_g n (logB n) he (by unfold maxLen; omega) d D1 Z w0 w hz hname).mono fun e w' h1 => .inr ⟨he, h1⟩
  | true =>
    have HNM := Lib.hid (hname w (Chg.refl _ _))
    obtain ⟨nm, hn⟩ : ∃ nm, logB n = nm := ⟨_, rfl⟩
    rw [hn] at HNM he ⊢
    clear h hname hn hsz
    have he2 := Lib.hid he
    go_enter Tryz.func17, Tryz.ntmps17
    go_wp2_with fail
    refine HNM.out.mono ?_
    rintro e w1 ⟨rfl, hc⟩
    have HC := Lib.hid hc
    clear hc
    go_wp2_with fail
    exact bodyPost_ret (v := .tuple #[.slice none 0 0, .bool false, .int .i64 2]) (by simp [results, Tryz.results17, go_sem]) rfl (.inl ⟨he2.out, rfl, HC.out⟩)
end
end Go.Proofs.YtjfbcjmnjlehaaaGreatDoor
namespace Go.Proofs.YtjfbcjmnjlehaaaGreatDoor
open Go.RowKit
set_option linter.unusedVariables false
set_option linter.unusedSimpArgs false

theorem bsm_createW (n : Nat) (D : DiskV) (nm : ByteArray) (h : BSm n D) : BSm (n + 2) (createW D nm).2 := by
  unfold createW
  split
  · exact (bsm_create nm h).up
  · exact bsm_syncdir (bsm_create nm h)
theorem bsm_removeW (n : Nat) (D : DiskV) (nm : ByteArray) (h : BSm n D) : BSm (n + 2) (removeW D nm).2 := by
  unfold removeW
  split
  · exact (bsm_remove nm h).up
  · exact bsm_syncdir (bsm_remove nm h)
theorem bsm_appendW (n : Nat) (D : DiskV) (nm b : ByteArray) (h : BSm n D) : BSm (n + 2) (appendW D nm b).2 := by
  unfold appendW
  split
  · exact h.up.up
  · split
    · exact (bsm_append nm _ h).up
    · exact bsm_sync nm (bsm_append nm _ h)
theorem bsm_orArg (n : Nat) (D : DiskV) (nm : ByteArray) (x : Int × DiskV) (h : BSm n D) (hx : BSm (n + 2) x.2) : BSm (n + 2) (orArg nm D x).2 := by
  unfold orArg
  split
  · exact h.up.up
  · exact hx
theorem getF_kinds (l : List UInt8) : getF l = 0 ∨ getF l = 3 ∨ getF l = 4 ∨ getF l = 6 ∨ getF l = 10 := by
  unfold getF
  by_cases h0 : l.length = 0
  · rw [if_pos h0]; omega
  rw [if_neg h0]
  by_cases h1 : l.length < 4
  · rw [if_pos h1]; omega
  rw [if_neg h1]
  by_cases h2 : ¬ (at8 l 0 + at8 l 2 = 255 ∧ at8 l 1 + at8 l 3 = 255)
  · rw [if_pos h2]; omega
  rw [if_neg h2]
  by_cases h3 : l.length < 8 + fraN l
  · rw [if_pos h3]; omega
  rw [if_neg h3]
  by_cases h4 : be4 l ≠ crcSum (fraBody l)
  · rw [if_pos h4]; omega
  · rw [if_neg h4]; omega
theorem allF_kinds : ∀ l : List UInt8, (allF l).2 = 3 ∨ (allF l).2 = 4 ∨ (allF l).2 = 6 ∨ (allF l).2 = 10 := by
  intro l
  induction l using allF.induct with
  | case1 l h _ ih => rw [allF_yes h]; exact ih
  | case2 l h =>
    rw [allF_no h]
    have := getF_kinds l
    simp only
    omega
section
variable (w0 : World) (d r : Nat) (Y : Nat → Obj → Prop) (D1 D2 : DiskV) (X : Nat → Prop) (N : Nat) (n : Int) (w : World) (h : Both w0 w d r Y D1 D2 X) (hn0 : -9223372036854775808 ≤ n) (hn1 : n ≤ 9223372036854775807)
include h hn0 hn1
set_option maxRecDepth 100000 in
set_option maxHeartbeats 2000000 in
theorem bx_create (hb : BSm N D2) (hN : N ≤ 900) : Calls Tryz.prog 14 #[.pointer (some ⟨r, 0, none⟩), .int .i64 n] w fun e w' => e = .returned (.int .i64 (orArg (logB n) D2 (createW D2 (logB n))).1) ∧ Both w0 w' d r Y D1 (orArg (logB n) D2 (createW D2 (logB n))).2 X := by
  have HNM := Lib.hid (fun W => br_name n hn0 hn1 W)
  obtain ⟨nm, hn⟩ : ∃ nm, logB n = nm := ⟨_, rfl⟩
  rw [hn] at HNM ⊢
  have H := Lib.hid h
  have HB := Lib.hid hb
  clear h hb hn
  unfold orArg createW
  cases he : nm.toList.isEmpty with
  | true =>
    rw [if_pos rfl]
    go_enter Tryz.func14, Tryz.ntmps14
    go_wp2_with fail
    refine (HNM.out _).mono ?_
    rintro e w1 ⟨rfl, hc⟩
    have HC := Lib.hid hc
    clear hc
    go_wp2_with fail
    go_ret
    exact ⟨rfl, H.out.same HC.out⟩
  | false =>
    rw [if_neg (by decide)]
    have hcr := fun W hW => br_create w0 d r Y D1 D2 X N nm W (H.out.same hW) HB.out (by omega)
    obtain ⟨E, D3, hE⟩ : ∃ E D3, createD D2 nm = (E, D3) := ⟨_, _, rfl⟩
    have hb3 := bsm_create nm HB.out
    rw [hE] at hb3 ⊢
    simp only [hE] at hcr
    have HCR := Lib.hid hcr
    have HB3 := Lib.hid hb3
    clear hcr hb3 hE
    by_cases h0 : E = 0
    · subst h0
      rw [if_neg (by simp)]
      go_enter Tryz.func14, Tryz.ntmps14
      go_wp2_with fail
      refine (HNM.out _).mono ?_
      rintro e w1 ⟨rfl, hc⟩
      have HC := Lib.hid hc
      clear hc
      go_wp2_with fail
      refine (HCR.out _ HC.out).mono ?_
      rintro e w2 ⟨rfl, h2⟩
      have H2 := Lib.hid h2
      clear h2
      go_wp2_with fail
      refine (br_syncdir w0 d r Y D1 D3 X (N + 1) _ H2.out HB3.out (by omega)).mono ?_
      rintro e w3 ⟨rfl, h3⟩
      have H3 := Lib.hid h3
      clear h3
      go_wp2_with fail
      go_ret
      exact ⟨rfl, H3.out⟩
    · rw [if_pos h0]
      have hq1 : (E == 0) = false := by rw [beq_eq_false_iff_ne]; exact h0
      have hq2 : (E != 0) = true := by simp [bne, hq1]
      clear h0
      go_enter Tryz.func14, Tryz.ntmps14
      go_wp2_with fail
      refine (HNM.out _).mono ?_
      rintro e w1 ⟨rfl, hc⟩
      have HC := Lib.hid hc
      clear hc
      go_wp2_with fail
      refine (HCR.out _ HC.out).mono ?_
      rintro e w2 ⟨rfl, h2⟩
      have H2 := Lib.hid h2
      clear h2
      go_wp2_with fail
      go_ret
      exact ⟨rfl, H2.out⟩
set_option maxRecDepth 100000 in
set_option maxHeartbeats 2000000 in
theorem bx_remove (hb : BSm N D2) (hN : N ≤ 900) : Calls Tryz.prog 20 #[.pointer (some ⟨r, 0, none⟩), .int .i64 n] w fun e w' => e = .returned (.int .i64 (orArg (logB n) D2 (removeW D2 (logB n))).1) ∧ Both w0 w' d r Y D1 (orArg (logB n) D2 (removeW D2 (logB n))).2 X := by
  have HNM := Lib.hid (fun W => br_name n hn0 hn1 W)
  obtain ⟨nm, hn⟩ : ∃ nm, logB n = nm := ⟨_, rfl⟩
  rw [hn] at HNM ⊢
  have H := Lib.hid h
  have HB := Lib.hid hb
  clear h hb hn
  unfold orArg removeW
  cases he : nm.toList.isEmpty with
  | true =>
    rw [if_pos rfl]
    go_enter Tryz.func20, Tryz.ntmps20
    go_wp2_with fail
    refine (HNM.out _).mono ?_
    rintro e w1 ⟨rfl, hc⟩
    have HC := Lib.hid hc
    clear hc
    go_wp2_with fail
    go_ret
    exact ⟨rfl, H.out.same HC.out⟩
  | false =>
    rw [if_neg (by decide)]
    have hcr := fun W hW => br_remove w0 d r Y D1 D2 X N nm W (H.out.same hW) HB.out (by omega)
    obtain ⟨E, D3, hE⟩ : ∃ E D3, removeD D2 nm = (E, D3) := ⟨_, _, rfl⟩
    have hb3 := bsm_remove nm HB.out
    rw [hE] at hb3 ⊢
    simp only [hE] at hcr
    have HCR := Lib.hid hcr
    have HB3 := Lib.hid hb3
    clear hcr hb3 hE
    by_cases h0 : E = 0
    · subst h0
      rw [if_neg (by simp)]
      go_enter Tryz.func20, Tryz.ntmps20
      go_wp2_with fail
      refine (HNM.out _).mono ?_
      rintro e w1 ⟨rfl, hc⟩
      have HC := Lib.hid hc
      clear hc
      go_wp2_with fail
      refine (HCR.out _ HC.out).mono ?_
      rintro e w2 ⟨rfl, h2⟩
      have H2 := Lib.hid h2
      clear h2
      go_wp2_with fail
      refine (br_syncdir w0 d r Y D1 D3 X (N + 1) _ H2.out HB3.out (by omega)).mono ?_
      rintro e w3 ⟨rfl, h3⟩
      have H3 := Lib.hid h3
      clear h3
      go_wp2_with fail
      go_ret
      exact ⟨rfl, H3.out⟩
    · rw [if_pos h0]
      have hq1 : (E == 0) = false := by rw [beq_eq_false_iff_ne]; exact h0
      have hq2 : (E != 0) = true := by simp [bne, hq1]
      clear h0
      go_enter Tryz.func20, Tryz.ntmps20
      go_wp2_with fail
      refine (HNM.out _).mono ?_
      rintro e w1 ⟨rfl, hc⟩
      have HC := Lib.hid hc
      clear hc
      go_wp2_with fail
      refine (HCR.out _ HC.out).mono ?_
      rintro e w2 ⟨rfl, h2⟩
      have H2 := Lib.hid h2
      clear h2
      go_wp2_with fail
      go_ret
      exact ⟨rfl, H2.out⟩
set_option maxRecDepth 100000 in
set_option maxHeartbeats 2000000 in
theorem bx_append (b : ByteArray) (hbz : b.size ≤ 140737488355328) (hb : BSm N D2) (hN : N ≤ 900) : Calls Tryz.prog 16 #[.pointer (some ⟨r, 0, none⟩), .int .i64 n, .string b] w fun e w' => e = .returned (.int .i64 (orArg (logB n) D2 (appendW D2 (logB n) b)).1) ∧ Both w0 w' d r Y D1 (orArg (logB n) D2 (appendW D2 (logB n) b)).2 X := by
  have HNM := Lib.hid (fun W => br_name n hn0 hn1 W)
  obtain ⟨nm, hn⟩ : ∃ nm, logB n = nm := ⟨_, rfl⟩
  rw [hn] at HNM ⊢
  have H := Lib.hid h
  have HB := Lib.hid hb
  have hput := fun W => rf_put b W hbz
  have htz := putV_size b
  obtain ⟨t, er, hp⟩ : ∃ t er, putV b = (t, er) := ⟨_, _, rfl⟩
  unfold orArg appendW
  rw [hp] at htz ⊢
  simp only [hp] at hput
  have HPUT := Lib.hid hput
  clear h hb hn hput hp
  cases he : nm.toList.isEmpty with
  | true =>
    rw [if_pos rfl]
    go_enter Tryz.func16, Tryz.ntmps16
    go_wp2_with fail
    refine (HNM.out _).mono ?_
    rintro e w1 ⟨rfl, hc⟩
    have HC := Lib.hid hc
    clear hc
    go_wp2_with fail
    go_ret
    exact ⟨rfl, H.out.same HC.out⟩
  | false =>
    rw [if_neg (by decide)]
    by_cases her : er = 0
    · subst her
      rw [if_neg (by simp)]
      have hcr := fun W hW => br_append w0 d r Y D1 D2 X N nm t W (H.out.same hW) HB.out (by omega) (by simp only at htz; omega)
      obtain ⟨E, D3, hE⟩ : ∃ E D3, appendD D2 nm t = (E, D3) := ⟨_, _, rfl⟩
      have hb3 := bsm_append nm t HB.out
      simp only
      rw [hE] at hb3 ⊢
      simp only [hE] at hcr
      have HCR := Lib.hid hcr
      have HB3 := Lib.hid hb3
      clear hcr hb3 hE
      by_cases h0 : E = 0
      · subst h0
        rw [if_neg (by simp)]
        go_enter Tryz.func16, Tryz.ntmps16
        go_wp2_with fail
        refine (HNM.out _).mono ?_
        rintro e w1 ⟨rfl, hc⟩
        have HC := Lib.hid hc
        clear hc
        go_wp2_with fail
        refine (HPUT.out _).mono ?_
        rintro e w1' ⟨rfl, hc⟩
        have HC2 := Lib.hid (HC.out.then hc)
        clear hc
        go_wp2_with fail
        refine (HCR.out _ HC2.out).mono ?_
        rintro e w2 ⟨rfl, h2⟩
        have H2 := Lib.hid h2
        clear h2
        go_wp2_with fail
        refine (br_sync w0 d r Y D1 D3 X (N + 1) nm _ H2.out HB3.out (by omega)).mono ?_
        rintro e w3 ⟨rfl, h3⟩
        have H3 := Lib.hid h3
        clear h3
        go_wp2_with fail
        go_ret
        exact ⟨rfl, H3.out⟩
      · rw [if_pos h0]
        have hq1 : (E == 0) = false := by rw [beq_eq_false_iff_ne]; exact h0
        have hq2 : (E != 0) = true := by simp [bne, hq1]
        clear h0
        go_enter Tryz.func16, Tryz.ntmps16
        go_wp2_with fail
        refine (HNM.out _).mono ?_
        rintro e w1 ⟨rfl, hc⟩
        have HC := Lib.hid hc
        clear hc
        go_wp2_with fail
        refine (HPUT.out _).mono ?_
        rintro e w1' ⟨rfl, hc⟩
        have HC2 := Lib.hid (HC.out.then hc)
        clear hc
        go_wp2_with fail
        refine (HCR.out _ HC2.out).mono ?_
        rintro e w2 ⟨rfl, h2⟩
        have H2 := Lib.hid h2
        clear h2
        go_wp2_with fail
        go_ret
        exact ⟨rfl, H2.out⟩
    · rw [if_pos her]
      have hq1 : (er == 0) = false := by rw [beq_eq_false_iff_ne]; exact her
      have hq2 : (er != 0) = true := by simp [bne, hq1]
      clear her
      go_enter Tryz.func16, Tryz.ntmps16
      go_wp2_with fail
      refine (HNM.out _).mono ?_
      rintro e w1 ⟨rfl, hc⟩
      have HC := Lib.hid hc
      clear hc
      go_wp2_with fail
      refine (HPUT.out _).mono ?_
      rintro e w1' ⟨rfl, hc⟩
      have HC2 := Lib.hid (HC.out.then hc)
      clear hc
      go_wp2_with fail
      go_ret
      exact ⟨rfl, H.out.same HC2.out⟩
set_option maxRecDepth 100000 in
set_option maxHeartbeats 2000000 in
theorem bx_read : Calls Tryz.prog 18 #[.pointer (some ⟨r, 0, none⟩), .int .i64 n] w (RdPost w D2 (logB n)) := by
  have HNM := Lib.hid (fun W => br_name n hn0 hn1 W)
  have hok : DiskOk D2 := by
    obtain ⟨_, _, _, _, hr, _⟩ := h
    exact hr.1
  have hsz := read_size hok (logB n)
  have hrd := fun W (hW : Chg (fun _ => False) w W) => br_readk w0 d r Y D1 D2 X (logB n) W (h.same hW)
  obtain ⟨nm, hn⟩ : ∃ nm, logB n = nm := ⟨_, rfl⟩
  rw [hn] at HNM hsz hrd ⊢
  clear h hok hn
  cases he : nm.toList.isEmpty with
  | true =>
    have HE := Lib.hid he
    clear hrd
    go_enter Tryz.func18, Tryz.ntmps18
    go_wp2_with fail
    refine (HNM.out _).mono ?_
    rintro e w1 ⟨rfl, hc⟩
    have HC := Lib.hid hc
    clear hc
    go_wp2_with fail
    exact bodyPost_ret (v := .tuple #[.slice none 0 0, .bool false, .int .i64 2]) (by simp [results, Tryz.results18, go_sem]) rfl (.inl ⟨HE.out, rfl, HC.out⟩)
  | false =>
    have HE := Lib.hid he
    obtain ⟨s, hs⟩ : ∃ s, (readD D2 nm).1 = s := ⟨_, rfl⟩
    obtain ⟨er, her⟩ : ∃ er, (readD D2 nm).2 = er := ⟨_, rfl⟩
    have main : Calls Tryz.prog 18 #[.pointer (some ⟨r, 0, none⟩), .int .i64 n] w (WRead w s er) := by
      simp only [hs, her] at hrd
      rw [hs] at hsz
      have HRD := Lib.hid hrd
      clear hrd hs her
      go_enter Tryz.func18, Tryz.ntmps18
      go_wp2_with fail
      refine (HNM.out _).mono ?_
      rintro e w1 ⟨rfl, hc⟩
      have HC1 := Lib.hid hc
      clear hc
      go_wp2_with fail
      refine (HRD.out w1 HC1.out).mono ?_
      rintro e w2 ⟨rfl, hc2⟩
      have HC2 := Lib.hid (HC1.out.then hc2)
      clear hc2
      by_cases he0 : er = 0
      · subst he0
        have hall := rf_all s w2 (by omega)
        have HALL := Lib.hid hall
        clear hall
        go_wp2_with fail
        refine HALL.out.mono ?_
        rintro e w3 ⟨v, l, k, rfl, hbl, hL, hll, hc3⟩
        have hkd := allF_kinds s.data.toList
        obtain ⟨g, hg⟩ : ∃ g, (allF s.data.toList).2 = g := ⟨_, rfl⟩
        obtain ⟨la, lc, rfl, _⟩ := str_form hL
        have HBL := Lib.hid hbl
        have HL := Lib.hid hL
        have HC3 := Lib.hid (HC2.out.then hc3)
        rw [hg] at hkd ⊢
        have HG := Lib.hid hg
        clear hbl hL hc3 hg
        rcases hkd with rfl | rfl | rfl | rfl
        · go_wp2_with fail
          exact bodyPost_ret (v := .tuple #[.slice la l.length lc, .bool true, .int .i64 0]) (by simp [results, Tryz.results18, go_sem]) rfl ⟨.inr (.inr ⟨rfl, by rw [HG.out]; decide, by rw [HG.out]; decide, _, l, by rw [HG.out]; rfl, HL.out, HBL.out⟩), HC3.out⟩
        · go_wp2_with fail
          exact bodyPost_ret (v := .tuple #[.slice none 0 0, .bool false, .int .i64 6]) (by simp [results, Tryz.results18, go_sem]) rfl ⟨.inr (.inl ⟨rfl, .inl HG.out, rfl⟩), HC3.out⟩
        · go_wp2_with fail
          exact bodyPost_ret (v := .tuple #[.slice none 0 0, .bool false, .int .i64 6]) (by simp [results, Tryz.results18, go_sem]) rfl ⟨.inr (.inl ⟨rfl, .inr HG.out, rfl⟩), HC3.out⟩
        · go_wp2_with fail
          exact bodyPost_ret (v := .tuple #[.slice la l.length lc, .bool false, .int .i64 0]) (by simp [results, Tryz.results18, go_sem]) rfl ⟨.inr (.inr ⟨rfl, by rw [HG.out]; decide, by rw [HG.out]; decide, _, l, by rw [HG.out]; rfl, HL.out, HBL.out⟩), HC3.out⟩
      · have hq1 : (er == 0) = false := by rw [beq_eq_false_iff_ne]; exact he0
        have hq2 : (er != 0) = true := by simp [bne, hq1]
        have HN0 := Lib.hid he0
        clear he0
        go_wp2_with fail
        exact bodyPost_ret (v := .tuple #[.slice none 0 0, .bool false, .int .i64 er]) (by simp [results, Tryz.results18, go_sem]) rfl ⟨.inl ⟨HN0.out, rfl⟩, HC2.out⟩
    refine main.mono fun e w' hm => .inr ⟨HE.out, ?_⟩
    rw [hs, her]
    exact hm
end
end Go.Proofs.YtjfbcjmnjlehaaaGreatDoor
