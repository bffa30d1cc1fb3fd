/-
  The disk and the document's, side by side.
-/
import Derived.Test.YtlcggocfkanblaaDiskBa
import Derived.Test.YtlcggocfkanblaaRdI
import Derived.Test.YtlcggocfkanblaaRdL
import Derived.Test.YtlcggocfkanblaaRdN
import Derived.Test.YtlcggocfkanblaaRdO
namespace Go.Proofs.Ytlcggocfkanblaa
open Go.RowKit
set_option linter.unusedVariables false
set_option linter.unusedSimpArgs false

/-- Both disks, of the call's own, apart; the blocks X are kept by the document's; the blocks Y lie beside both, and hold what they held. -/
def Both (w0 w : World) (d r : Nat) (Y : Nat → Obj → Prop) (D1 D2 : DiskV) (X : Nat → Prop) : Prop :=
  ∃ ids Md Mr, DiskAt w d ids D1 Md ∧ RAt w r D2 Mr ∧ (∀ k, Md k → ¬ Mr k) ∧ (∀ k, Md k ∨ Mr k → w0.heap.size ≤ k) ∧ Chg (fun _ => False) w0 w ∧ (∀ k, X k → Mr k) ∧ ∀ k o, Y k o → w.heap[k]? = some o ∧ ¬ Md k ∧ ¬ Mr k
theorem heap_lt {w : World} {k : Nat} {o : Obj} (h : w.heap[k]? = some o) : k < w.heap.size := (Array.getElem?_eq_some_iff.1 h).1
section
variable {w0 w w' : World} {d r : Nat} {Y : Nat → Obj → Prop} {D1 D2 : DiskV} {X : Nat → Prop}
theorem Both.frame (h : Both w0 w d r Y D1 D2 X) : Chg (fun _ => False) w0 w := by
  obtain ⟨_, _, _, _, _, _, _, hc, _⟩ := h
  exact hc
theorem Both.holds (h : Both w0 w d r Y D1 D2 X) {k : Nat} {o : Obj} (hk : Y k o) : w.heap[k]? = some o := by
  obtain ⟨_, _, _, _, _, _, _, _, _, hy⟩ := h
  exact (hy k o hk).1
theorem Both.same (h : Both w0 w d r Y D1 D2 X) (hc : Chg (fun _ => False) w w') : Both w0 w' d r Y D1 D2 X := by
  obtain ⟨ids, Md, Mr, hd, hr, h1, h2, h3, h4, h5⟩ := h
  exact ⟨ids, Md, Mr, hd.same hc, hr.same hc, h1, h2, h3.then hc, h4, fun k o hk => ⟨(hc.block k (heap_lt (h5 k o hk).1) (by simp)).trans (h5 k o hk).1, (h5 k o hk).2⟩⟩
theorem Both.drop (h : Both w0 w d r Y D1 D2 X) : Both w0 w d r (fun _ _ => False) D1 D2 (fun _ => False) := by
  obtain ⟨ids, Md, Mr, hd, hr, h1, h2, h3, h4, h5⟩ := h
  exact ⟨ids, Md, Mr, hd, hr, h1, h2, h3, fun k hk => hk.elim, fun k o hk => hk.elim⟩
theorem Both.disk (h : Both w0 w d r Y D1 D2 X) : ∃ ids Md, DiskAt w d ids D1 Md ∧ (∀ k, X k → ¬ Md k) ∧ ∀ D' w', DPost w d ids Md D' w' → Both w0 w' d r Y D' D2 X := by
  obtain ⟨ids, Md, Mr, hd, hr, h1, h2, h3, h4, h5⟩ := h
  refine ⟨ids, Md, hd, fun k hk hm => h1 k hm (h4 k hk), fun D' w' hp => ?_⟩
  obtain ⟨ids', ha, _, hc⟩ := hp
  have hs := h3.size
  refine ⟨ids', _, Mr, ha, hr.chg hc fun k hk hm => h1 k hm hk, fun k hk hm => ?_, fun k hk => ?_, h3.trans hc fun k hk e => by have := h2 k (.inl e); omega, h4, fun k o hk => ?_⟩
  · rcases hk with e | e
    · exact h1 k e hm
    · have := hr.lt k hm; omega
  · rcases hk with (e | e) | e
    · exact h2 k (.inl e)
    · omega
    · exact h2 k (.inr e)
  · obtain ⟨a, b, c⟩ := h5 k o hk
    have hkl := heap_lt a
    refine ⟨(hc.block k hkl b).trans a, fun e => ?_, c⟩
    rcases e with e | e
    · exact b e
    · omega
theorem Both.ref (h : Both w0 w d r Y D1 D2 X) : ∃ Mr, RAt w r D2 Mr ∧ (∀ k, X k → Mr k) ∧ ∀ D' w', RPost w r Mr D' w' → Both w0 w' d r Y D1 D' X := by
  obtain ⟨ids, Md, Mr, hd, hr, h1, h2, h3, h4, h5⟩ := h
  refine ⟨Mr, hr, h4, fun D' w' hp => ?_⟩
  obtain ⟨ha, hc⟩ := hp
  have hs := h3.size
  refine ⟨ids, Md, _, hd.chg hc fun k hk hm => h1 k hk hm, ha, fun k hk hm => ?_, fun k hk => ?_, h3.trans hc fun k hk e => by have := h2 k (.inr e); omega, fun k hk => .inl (h4 k hk), fun k o hk => ?_⟩
  · rcases hm with e | e
    · exact h1 k hk e
    · have := hd.lt k hk; omega
  · rcases hk with e | e | e
    · exact h2 k (.inl e)
    · exact h2 k (.inr e)
    · omega
  · obtain ⟨a, b, c⟩ := h5 k o hk
    have hkl := heap_lt a
    refine ⟨(hc.block k hkl c).trans a, b, fun e => ?_⟩
    rcases e with e | e
    · exact c e
    · omega
/-- Newer blocks are given to the document's disk to keep, others are watched. -/
theorem Both.keep {Z : Nat → Obj → Prop} (h : Both w0 w d r (fun _ _ => False) D1 D2 (fun _ => False)) (hc : Chg (fun _ => False) w w') (hX : ∀ k, X k → w.heap.size ≤ k ∧ k < w'.heap.size) (hZ : ∀ k o, Z k o → w.heap.size ≤ k ∧ w'.heap[k]? = some o ∧ ¬ X k) : Both w0 w' d r Z D1 D2 X := by
  obtain ⟨ids, Md, Mr, hd, hr, h1, h2, h3, h4, _⟩ := h
  have hs := h3.size
  have hs2 := hc.size
  refine ⟨ids, Md, fun k => Mr k ∨ X k, hd.same hc, (hr.same hc).more (fun k hk => .inl hk) (fun k hk => ?_), fun k hk hm => ?_, fun k hk => ?_, h3.then hc, fun k hk => .inr hk, fun k o hk => ?_⟩
  · rcases hk with e | e
    · have := hr.lt k e; omega
    · exact (hX k e).2
  · rcases hm with e | e
    · exact h1 k hk e
    · have := hd.lt k hk; have := (hX k e).1; omega
  · rcases hk with e | e | e
    · exact h2 k (.inl e)
    · exact h2 k (.inr e)
    · have := (hX k e).1; omega
  · obtain ⟨a, b, c⟩ := hZ k o hk
    refine ⟨b, fun e => by have := hd.lt k e; omega, fun e => ?_⟩
    rcases e with e | e
    · have := hr.lt k e; omega
    · exact c e
/-- The document's disk: the power is on. -/
theorem Both.roff (h : Both w0 w d r Y D1 D2 X) : w.cell? ⟨r, 5, none⟩ = some (.bool D2.off) ∧ w.frozen? ⟨r, 5, none⟩ = false ∧ Both w0 (w.setCell ⟨r, 5, none⟩ (.bool false)) d r Y D1 { D2 with off := false } X := by
  obtain ⟨Mr, ha, _, hp⟩ := h.ref
  obtain ⟨hok, y, hin, hce⟩ := ha
  have hset : Chg (fun k => k = r) w (w.setCell ⟨r, 5, none⟩ (.bool false)) := Chg.setOwn (Chg.refl _ _) _ _
  have hb := hin.blk.set_ 5 (.bool false)
  have hr := hin.setR (D' := { D2 with off := false }) hset (by simpa [rCells] using hb) rfl rfl rfl rfl
  exact ⟨hin.blk.cell 5, hin.blk.frozen 5, hp _ _ (RPost.same ⟨off_ok hok false, y, hr, hce⟩ hin.lt (hset.mono fun k _ e => by rw [e]; exact hin.mine r (.inl rfl)))⟩
theorem Both.ron (h : Both w0 w d r Y D1 D2 X) : (∃ a b c, w.cell? ⟨r, 5, none⟩ = some (.bool a) ∧ w.cell? ⟨r, 6, none⟩ = some (.int .i64 b) ∧ w.cell? ⟨r, 9, none⟩ = some (.int .i64 c)) ∧ (w.frozen? ⟨r, 5, none⟩ = false ∧ w.frozen? ⟨r, 6, none⟩ = false ∧ w.frozen? ⟨r, 9, none⟩ = false) ∧
    Both w0 (((w.setCell ⟨r, 5, none⟩ (.bool false)).setCell ⟨r, 6, none⟩ (.int .i64 0)).setCell ⟨r, 9, none⟩ (.int .i64 0)) d r Y D1 (onD D2) X := by
  obtain ⟨Mr, ha, _, hp⟩ := h.ref
  obtain ⟨hok, y, hin, hce⟩ := ha
  obtain ⟨_, _, _, _, _, c5, c6, _, _, c9⟩ := rin_cells hin
  have hset : Chg (fun k => k = r) w (((w.setCell ⟨r, 5, none⟩ (.bool false)).setCell ⟨r, 6, none⟩ (.int .i64 0)).setCell ⟨r, 9, none⟩ (.int .i64 0)) := Chg.setOwn (Chg.setOwn (Chg.setOwn (Chg.refl _ _) _ _) _ _) _ _
  have hb := ((hin.blk.set_ 5 (.bool false)).set_ 6 (.int .i64 0)).set_ 9 (.int .i64 0)
  have hr := hin.setR (D' := onD D2) hset (by simpa [rCells, onD] using hb) rfl rfl rfl rfl
  exact ⟨⟨_, _, _, c5, c6, c9⟩, ⟨hin.blk.frozen 5, hin.blk.frozen 6, hin.blk.frozen 9⟩, hp _ _ (RPost.same ⟨on_ok hok, y, hr, fun hne => absurd rfl hne⟩ hin.lt (hset.mono fun k _ e => by rw [e]; exact hin.mine r (.inl rfl)))⟩
theorem rints_src {w : World} {v : Value} {l : List Int} (h : RInts w v l) : Src Try.prog 1 23 v l.length (intCells l) w := by
  obtain ⟨a, cap, rfl, hn, hb, hr⟩ := h
  cases a with
  | none =>
    have hz : l.length = 0 := by
      rcases Nat.eq_zero_or_pos l.length with h0 | h0
      · exact h0
      · obtain ⟨b, off, hb, _⟩ := hr h0; cases hb
    have hnil : l = [] := List.eq_nil_of_length_eq_zero hz
    subst hnil
    exact Src.ofNil _ Try.underlying23 cap
  | some ad =>
    refine Src.ofSlice _ Try.underlying23 ad l.length cap _ (by simp [intCells]) (fun j u hu => ?_) (intCells_one l)
    unfold intCells at hu
    rw [List.getElem?_map] at hu
    obtain ⟨x, hx, rfl⟩ := Option.map_eq_some_iff.1 hu
    have hj := (List.getElem?_eq_some_iff.1 hx).1
    obtain ⟨b, off, he, hc⟩ := hr (by omega)
    cases he
    have e : (⟨b, off, none⟩ : Addr).add j = ⟨b, off + j, none⟩ := by rw [Addr.add_lit]
    rw [e]
    exact hc j x hx
end
section
variable (w0 : World) (d r : Nat) (Y : Nat → Obj → Prop) (D1 D2 : DiskV) (X : Nat → Prop) (N : Nat) (hN : N ≤ 1000) (n s : ByteArray) (hn : n.size ≤ maxLen) (hs : s.size ≤ 140737488355328) (w : World) (h : Both w0 w d r Y D1 D2 X)
include h
theorem bd_create (hb : BSm N D1) (hN : N ≤ 1000) (hn : n.size ≤ maxLen) : Calls Try.prog 10 #[.pointer (some ⟨d, 0, none⟩), .string n] w fun e w' => e = .returned (.int .i64 (createD D1 n).1) ∧ Both w0 w' d r Y (createD D1 n).2 D2 X := by
  obtain ⟨ids, Md, ha, _, hp⟩ := h.disk
  have h1 := hb.f; have h2 := hb.l
  exact (disk_create d ids D1 Md n hn (by omega) (by omega) w ha).mono fun e w' ⟨he, hq⟩ => ⟨he, hp _ _ hq⟩
theorem br_create (hb : BSm N D2) (hN : N ≤ 1000) : Calls Try.prog 46 #[.pointer (some ⟨r, 0, none⟩), .string n] w fun e w' => e = .returned (.int .i64 (createD D2 n).1) ∧ Both w0 w' d r Y D1 (createD D2 n).2 X := by
  obtain ⟨Mr, ha, _, hp⟩ := h.ref
  have h1 := hb.f; have h2 := hb.n
  exact (rd_create r D2 Mr n (hb.rsm hN) (by omega) (by omega) w ha).mono fun e w' ⟨he, hq⟩ => ⟨he, hp _ _ hq⟩
theorem bd_append (hb : BSm N D1) (hN : N ≤ 1000) (hn : n.size ≤ maxLen) (hs : s.size ≤ 140737488355328) : Calls Try.prog 11 #[.pointer (some ⟨d, 0, none⟩), .string n, .string s] w fun e w' => e = .returned (.int .i64 (appendD D1 n s).1) ∧ Both w0 w' d r Y (appendD D1 n s).2 D2 X := by
  obtain ⟨ids, Md, ha, _, hp⟩ := h.disk
  have h1 := hb.n; have h2 := hb.l
  exact (disk_append d ids D1 Md n s hn hs (by omega) (by omega) w ha).mono fun e w' ⟨he, hq⟩ => ⟨he, hp _ _ hq⟩
theorem br_append (hb : BSm N D2) (hN : N ≤ 1000) (hs : s.size ≤ 140737488355328) : Calls Try.prog 47 #[.pointer (some ⟨r, 0, none⟩), .string n, .string s] w fun e w' => e = .returned (.int .i64 (appendD D2 n s).1) ∧ Both w0 w' d r Y D1 (appendD D2 n s).2 X := by
  obtain ⟨Mr, ha, _, hp⟩ := h.ref
  exact (rd_append r D2 Mr n s hs (hb.rsm hN).small w ha).mono fun e w' ⟨he, hq⟩ => ⟨he, hp _ _ hq⟩
theorem bd_sync (hb : BSm N D1) (hN : N ≤ 1000) (hn : n.size ≤ maxLen) : Calls Try.prog 12 #[.pointer (some ⟨d, 0, none⟩), .string n] w fun e w' => e = .returned (.int .i64 (syncD D1 n).1) ∧ Both w0 w' d r Y (syncD D1 n).2 D2 X := by
  obtain ⟨ids, Md, ha, _, hp⟩ := h.disk
  have h2 := hb.l
  exact (disk_sync d ids D1 Md n hn (by omega) w ha).mono fun e w' ⟨he, hq⟩ => ⟨he, hp _ _ hq⟩
theorem br_sync (hb : BSm N D2) (hN : N ≤ 1000) : Calls Try.prog 48 #[.pointer (some ⟨r, 0, none⟩), .string n] w fun e w' => e = .returned (.int .i64 (syncD D2 n).1) ∧ Both w0 w' d r Y D1 (syncD D2 n).2 X := by
  obtain ⟨Mr, ha, _, hp⟩ := h.ref
  exact (rd_sync r D2 Mr n (hb.rsm hN).small w ha).mono fun e w' ⟨he, hq⟩ => ⟨he, hp _ _ hq⟩
theorem bd_syncdir (hb : BSm N D1) (hN : N ≤ 1000) : Calls Try.prog 13 #[.pointer (some ⟨d, 0, none⟩)] w fun e w' => e = .returned (.int .i64 (syncDirD D1).1) ∧ Both w0 w' d r Y (syncDirD D1).2 D2 X := by
  obtain ⟨ids, Md, ha, _, hp⟩ := h.disk
  have h2 := hb.l
  exact (disk_syncdir d ids D1 Md (by omega) w ha).mono fun e w' ⟨he, hq⟩ => ⟨he, hp _ _ hq⟩
theorem br_syncdir (hb : BSm N D2) (hN : N ≤ 1000) : Calls Try.prog 49 #[.pointer (some ⟨r, 0, none⟩)] w fun e w' => e = .returned (.int .i64 (syncDirD D2).1) ∧ Both w0 w' d r Y D1 (syncDirD D2).2 X := by
  obtain ⟨Mr, ha, _, hp⟩ := h.ref
  exact (rd_syncdir r D2 Mr (hb.rsm hN).small w ha).mono fun e w' ⟨he, hq⟩ => ⟨he, hp _ _ hq⟩
theorem bd_rename (hb : BSm N D1) (hN : N ≤ 1000) (hn : n.size ≤ maxLen) (hs : s.size ≤ maxLen) : Calls Try.prog 15 #[.pointer (some ⟨d, 0, none⟩), .string n, .string s] w fun e w' => e = .returned (.int .i64 (renameD D1 n s).1) ∧ Both w0 w' d r Y (renameD D1 n s).2 D2 X := by
  obtain ⟨ids, Md, ha, _, hp⟩ := h.disk
  have h2 := hb.l
  exact (disk_rename d ids D1 Md n s hn hs (by omega) w ha).mono fun e w' ⟨he, hq⟩ => ⟨he, hp _ _ hq⟩
theorem br_rename (hb : BSm N D2) (hN : N ≤ 1000) (hs : s.size ≤ maxLen) : Calls Try.prog 50 #[.pointer (some ⟨r, 0, none⟩), .string n, .string s] w fun e w' => e = .returned (.int .i64 (renameD D2 n s).1) ∧ Both w0 w' d r Y D1 (renameD D2 n s).2 X := by
  obtain ⟨Mr, ha, _, hp⟩ := h.ref
  exact (rd_rename r D2 Mr n (hb.rsm hN) w ha s hs).mono fun e w' ⟨he, hq⟩ => ⟨he, hp _ _ hq⟩
theorem bd_remove (hb : BSm N D1) (hN : N ≤ 1000) (hn : n.size ≤ maxLen) : Calls Try.prog 22 #[.pointer (some ⟨d, 0, none⟩), .string n] w fun e w' => e = .returned (.int .i64 (removeD D1 n).1) ∧ Both w0 w' d r Y (removeD D1 n).2 D2 X := by
  obtain ⟨ids, Md, ha, _, hp⟩ := h.disk
  have h2 := hb.l
  exact (disk_remove d ids D1 Md n hn (by omega) w ha).mono fun e w' ⟨he, hq⟩ => ⟨he, hp _ _ hq⟩
theorem br_remove (hb : BSm N D2) (hN : N ≤ 1000) : Calls Try.prog 51 #[.pointer (some ⟨r, 0, none⟩), .string n] w fun e w' => e = .returned (.int .i64 (removeD D2 n).1) ∧ Both w0 w' d r Y D1 (removeD D2 n).2 X := by
  obtain ⟨Mr, ha, _, hp⟩ := h.ref
  exact (rd_remove r D2 Mr n (hb.rsm hN) w ha).mono fun e w' ⟨he, hq⟩ => ⟨he, hp _ _ hq⟩
theorem bd_read (hn : n.size ≤ maxLen) : Calls Try.prog 17 #[.pointer (some ⟨d, 0, none⟩), .string n] w fun e w' => e = .returned (.tuple #[.string (readD D1 n).1, .int .i64 (readD D1 n).2]) ∧ Both w0 w' d r Y D1 D2 X := by
  obtain ⟨ids, Md, ha, _, hp⟩ := h.disk
  exact (disk_read d ids D1 Md n hn w ha).mono fun e w' ⟨he, hq⟩ => ⟨he, h.same hq⟩
theorem br_read : Calls Try.prog 52 #[.pointer (some ⟨r, 0, none⟩), .string n] w fun e w' => e = .returned (.tuple #[.string (readD D2 n).1, .int .i64 (readD D2 n).2]) ∧ Both w0 w' d r Y D1 D2 X := by
  obtain ⟨Mr, ha, _, hp⟩ := h.ref
  exact (rd_read r D2 Mr n w ha).mono fun e w' ⟨he, hq⟩ => ⟨he, h.same hq⟩
theorem bd_part (hn : n.size ≤ maxLen) (p k : Int) (hp1 : -9223372036854775808 ≤ p) (hp2 : p ≤ 9223372036854775807) (hk1 : -9223372036854775808 ≤ k) (hk2 : k ≤ 9223372036854775807) : Calls Try.prog 53 #[.pointer (some ⟨d, 0, none⟩), .string n, .int .i64 p, .int .i64 k] w fun e w' => e = .returned (.tuple #[.string (partD D1 n p k).1, .int .i64 (partD D1 n p k).2]) ∧ Both w0 w' d r Y D1 D2 X := by
  obtain ⟨ids, Md, ha, _, hp⟩ := h.disk
  exact (disk_part d ids D1 Md n p k hn hp1 hp2 hk1 hk2 w ha).mono fun e w' ⟨he, hq⟩ => ⟨he, h.same hq⟩
theorem br_part (p k : Int) (hp1 : -9223372036854775808 ≤ p) (hp2 : p ≤ 9223372036854775807) (hk1 : -9223372036854775808 ≤ k) (hk2 : k ≤ 9223372036854775807) : Calls Try.prog 54 #[.pointer (some ⟨r, 0, none⟩), .string n, .int .i64 p, .int .i64 k] w fun e w' => e = .returned (.tuple #[.string (partD D2 n p k).1, .int .i64 (partD D2 n p k).2]) ∧ Both w0 w' d r Y D1 D2 X := by
  obtain ⟨Mr, ha, _, hp⟩ := h.ref
  exact (rd_part r D2 Mr n w ha p k hp1 hp2 hk1 hk2).mono fun e w' ⟨he, hq⟩ => ⟨he, h.same hq⟩
theorem bd_break (k : Int) (hk : k ≤ 9223372036854775807) : Calls Try.prog 19 #[.pointer (some ⟨d, 0, none⟩), .int .i64 k] w fun e w' => e = .returned (.tuple #[]) ∧ Both w0 w' d r Y (breakD D1 k) D2 X := by
  obtain ⟨ids, Md, ha, _, hp⟩ := h.disk
  exact (disk_break d ids D1 Md k hk w ha).mono fun e w' ⟨he, hq⟩ => ⟨he, hp _ _ hq⟩
theorem br_break (k : Int) (hk : k ≤ 9223372036854775807) : Calls Try.prog 57 #[.pointer (some ⟨r, 0, none⟩), .int .i64 k] w fun e w' => e = .returned (.tuple #[]) ∧ Both w0 w' d r Y D1 (breakD D2 k) X := by
  obtain ⟨Mr, ha, _, hp⟩ := h.ref
  exact (rd_break r D2 Mr w ha k hk).mono fun e w' ⟨he, hq⟩ => ⟨he, hp _ _ hq⟩
theorem bd_on : Calls Try.prog 20 #[.pointer (some ⟨d, 0, none⟩)] w fun e w' => e = .returned (.tuple #[]) ∧ Both w0 w' d r Y (onD D1) D2 X := by
  obtain ⟨ids, Md, ha, _, hp⟩ := h.disk
  exact (disk_on d ids D1 Md w ha).mono fun e w' ⟨he, hq⟩ => ⟨he, hp _ _ hq⟩
theorem bd_spoil (hn : n.size ≤ maxLen) (k : Int) (hk1 : -9223372036854775808 ≤ k) (hk2 : k ≤ 9223372036854775807) : Calls Try.prog 21 #[.pointer (some ⟨d, 0, none⟩), .string n, .int .i64 k] w fun e w' => e = .returned (.tuple #[]) ∧ Both w0 w' d r Y (spoilD D1 n k) D2 X := by
  obtain ⟨ids, Md, ha, _, hp⟩ := h.disk
  exact (disk_spoil d ids D1 Md n k hn hk1 hk2 w ha).mono fun e w' ⟨he, hq⟩ => ⟨he, hp _ _ hq⟩
theorem br_spoil (k : Int) (hk1 : -9223372036854775808 ≤ k) (hk2 : k ≤ 9223372036854775807) : Calls Try.prog 58 #[.pointer (some ⟨r, 0, none⟩), .string n, .int .i64 k] w fun e w' => e = .returned (.tuple #[]) ∧ Both w0 w' d r Y D1 (spoilD D2 n k) X := by
  obtain ⟨Mr, ha, _, hp⟩ := h.ref
  exact (rd_spoil r D2 Mr n k hk1 hk2 w ha).mono fun e w' ⟨he, hq⟩ => ⟨he, hp _ _ hq⟩
end
/-- A slice of ints of the call's own is read. -/
theorem own_rints {w : World} {v : Value} {l : List Int} (h : Own w 3 1 v l.length (intCells l)) (hb : ∀ n ∈ l, -9223372036854775808 ≤ n ∧ n ≤ 9223372036854775807) : RInts w v l := by
  obtain ⟨a, cap, e, _, hn, hr⟩ := h.reads
  refine ⟨a, cap, e, hn, hb, fun hpos => ?_⟩
  obtain ⟨b, hb, _, _, hcell⟩ := hr hpos
  exact ⟨b, 0, hb, fun i x hx => by
    have := hcell i (.int .i64 x) (by unfold intCells; rw [List.getElem?_map, hx]; rfl)
    simpa using this⟩
section
variable (w0 : World) (d r : Nat) (Y : Nat → Obj → Prop) (D1 D2 : DiskV) (N : Nat) (bytes : List Int) (bv : Value) (names k : Int) (w : World) (h : Both w0 w d r Y D1 D2 (fun k => bv.ownBlock = some k)) (hn1 : -9223372036854775808 ≤ names) (hn2 : names ≤ 9223372036854775807) (hk : k ≤ 9223372036854775807)
  (hbb : ∀ n ∈ bytes, -9223372036854775808 ≤ n ∧ n ≤ 9223372036854775807) (hown : Own w 3 1 bv bytes.length (intCells bytes))
include h hn1 hn2 hbb hown
theorem bd_crash (hb : BSm N D1) (hN : N ≤ 1000) : Calls Try.prog 16 #[.pointer (some ⟨d, 0, none⟩), .int .i64 names, bv] w fun e w' => e = .returned (.tuple #[]) ∧ Both w0 w' d r Y (crashD D1 names bytes) D2 (fun k => bv.ownBlock = some k) ∧ Own w' 3 1 bv bytes.length (intCells bytes) := by
  obtain ⟨ids, Md, ha, hx, hp⟩ := h.disk
  have h2 := hb.l
  exact (disk_crash d ids D1 Md names bytes bv (by omega) hn1 hn2 w ha (fun W hW => own_rints (hown.chg hW fun k hk => hx k hk) hbb)).mono fun e w' ⟨he, hq⟩ => ⟨he, hp _ _ hq, hown.chg hq.choose_spec.2.2 fun k hk => hx k hk⟩
theorem br_fail (hb : BSm N D2) (hN : N ≤ 1000) : Calls Try.prog 55 #[.pointer (some ⟨r, 0, none⟩), .int .i64 names, bv] w fun e w' => e = .returned (.tuple #[]) ∧ Both w0 w' d r Y D1 (failD D2 names bytes) (fun k => bv.ownBlock = some k) := by
  obtain ⟨Mr, ha, hx, hp⟩ := h.ref
  obtain ⟨hok, y, hin, hce⟩ := ha
  refine (rd_fail r D2 y Mr names bytes bv hok (hb.rsm hN).small hn1 hn2 w hin (fun W hW => own_rints (hown.chg hW fun k hk e => ?_) hbb)).mono fun e w' ⟨he, ⟨y', hi⟩, hc⟩ => ⟨he, hp _ _ ⟨⟨fail_ok hok _ _, y', hi, fun hne => absurd rfl hne⟩, hc⟩⟩
  obtain ⟨cs, hb⟩ := hown.typed hk
  rcases e with e | e
  · exact hb.ne_ hin.blk (by decide) e
  · obtain ⟨cs2, hb2⟩ := hin.parts.files.typed e
    exact hb.ne_ hb2 (by decide) rfl
include hk
theorem bd_cut (hl : bytes.length ≤ 17592186044416) : Calls Try.prog 14 #[.pointer (some ⟨d, 0, none⟩), .int .i64 k, .int .i64 names, bv] w fun e w' => e = .returned (.tuple #[]) ∧ Both w0 w' d r Y (cutD D1 k names bytes) D2 (fun k => bv.ownBlock = some k) ∧ Own w' 3 1 bv bytes.length (intCells bytes) := by
  obtain ⟨ids, Md, ha, hx, hp⟩ := h.disk
  exact (disk_cut d ids D1 Md k names bytes bv hl hk hn1 hn2 w ha (own_rints hown hbb)).mono fun e w' ⟨he, hq⟩ => ⟨he, hp _ _ hq, hown.chg hq.choose_spec.2.2 fun k hk => hx k hk⟩
theorem br_cut : Calls Try.prog 56 #[.pointer (some ⟨r, 0, none⟩), .int .i64 k, .int .i64 names, bv] w fun e w' => e = .returned (.tuple #[]) ∧ Both w0 w' d r Y D1 (cutD D2 k names bytes) (fun k => bv.ownBlock = some k) := by
  obtain ⟨Mr, ha, hx, hp⟩ := h.ref
  exact (rd_cut r D2 Mr w ha k names bytes bv hk hn1 hn2 hbb hown hx).mono fun e w' ⟨he, hq⟩ => ⟨he, hp _ _ hq⟩
end
end Go.Proofs.Ytlcggocfkanblaa
