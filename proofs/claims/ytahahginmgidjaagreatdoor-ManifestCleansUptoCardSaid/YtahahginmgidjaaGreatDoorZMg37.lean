/-
  The document's version: Apply, whole.
  The laws' edits in memory; what holds of every version that edits made; Apply by an edit that can be and by one that can't.
  What VerKa and VerJ hold, under one name.
-/
import Derived.Test.YtahahginmgidjaaGreatDoorZVerF1
import Derived.Test.YtahahginmgidjaaGreatDoorZVerF2
import Derived.Test.YtahahginmgidjaaGreatDoorZVerF3
import Derived.Test.YtahahginmgidjaaGreatDoorZVerF4
import Derived.Test.YtahahginmgidjaaGreatDoorZVerF5
import Derived.Test.YtahahginmgidjaaGreatDoorZMg31
import Derived.Test.YtahahginmgidjaaGreatDoorZVerH
namespace Go.Proofs.YtahahginmgidjaaGreatDoor
open Go.RowKit
theorem doc_apply (S : VerV) (E : EditV) (v av dv : Value) (w : World) (hv : Lst docC w v (flat S)) (ha : Lst docC w av E.add) (hd : Lst i64C w dv E.drop)
    (hS : (flat S).length ≤ 200000000) (hA : E.add.length ≤ 100000000) (hD : E.drop.length ≤ 100000000) :
    Calls Tryz.prog 23 #[.agg #[v, .int .i64 S.log, .int .i64 S.next, .int .i64 S.seq], .agg #[av, dv, .int .i64 E.log, .int .i64 E.next, .int .i64 E.seq]] w (DApplyPost w S E) := by
  by_cases h1 : okNums S E
  · by_cases h2 : okDrops (filesOf (flat S)) E.drop
    · by_cases h3 : okAdds (filesOf (flat S)) E.next E.add
      · by_cases h4 : ∀ i, 1 ≤ i → i < 4 → ((nextV S E).lv i).Pairwise Apart
        · exact doc_apply_ok S E v av dv w hv ha hd hS hA hD ⟨h1, h2, h3, h4⟩
        · exact doc_apply_pairs S E v av dv w hv ha hd hS hA hD h1 h2 h3 h4
      · exact doc_apply_adds S E v av dv w hv ha hd hS hA hD h1 h2 h3
    · exact doc_apply_drops S E v av dv w hv ha hd hS hA hD h1 h2
  · exact doc_apply_nums S E v av dv w hv ha hd hS hA hD h1
end Go.Proofs.YtahahginmgidjaaGreatDoor
namespace Go.Proofs.YtahahginmgidjaaGreatDoor
open Go.RowKit
set_option linter.unusedVariables false
set_option linter.unusedSimpArgs false

def Lv (a b c d : Value) : Nat → Value
  | 0 => a
  | 1 => b
  | 2 => c
  | _ => d
theorem Lv_all (L : Nat → Value) {w : World} {f : Nat → List MetaV} (h : VerAt w L f) : VerAt w (Lv (L 0) (L 1) (L 2) (L 3)) f := fun i hi => by
  match i, hi with
  | 0, _ => exact h 0 (by omega)
  | 1, _ => exact h 1 (by omega)
  | 2, _ => exact h 2 (by omega)
  | 3, _ => exact h 3 (by omega)
/-- The edits that came in, one by one. -/
def EdsAt (w : World) (A : Option Addr) (n : Nat) (Ed : Nat → EditV) : Prop :=
  0 < n → ∃ b off, A = some ⟨b, off, none⟩ ∧ b < w.heap.size ∧ ∀ i, i < n → ∃ av dv, w.cell? ⟨b, off + i * 5, none⟩ = some av ∧ w.cell? ⟨b, off + i * 5 + 1, none⟩ = some dv ∧ w.cell? ⟨b, off + i * 5 + 2, none⟩ = some (.int .i64 (Ed i).log) ∧ w.cell? ⟨b, off + i * 5 + 3, none⟩ = some (.int .i64 (Ed i).next) ∧ w.cell? ⟨b, off + i * 5 + 4, none⟩ = some (.int .i64 (Ed i).seq) ∧
    ReadRows w av (Ed i).add ∧ ReadInts w dv (Ed i).drop
structure EdFine (E : EditV) : Prop where
  ok : EdOk E
  nx : I64 E.next
  add : E.add.length ≤ 1048576
  drop : E.drop.length ≤ 1048576
/-- What holds of every version. -/
structure Fine (S : VerV) : Prop where
  good : Good S
  nx : I64 S.next
  size : ∀ i, i < 4 → ∀ m ∈ S.lv i, 0 ≤ m.size
  log0 : 0 ≤ S.log
  next0 : 0 ≤ S.next
  seq0 : 0 ≤ S.seq
theorem Fine.none : Fine VerV.none := ⟨Good.none, by simp [I64, VerV.none], by simp [VerV.none], by simp [VerV.none], by simp [VerV.none], by simp [VerV.none]⟩
theorem Fine.next {S : VerV} {E : EditV} (h : Fine S) (ho : okV S E) (hn : I64 E.next) : Fine (nextV S E) := by
  have hnums := ho.1.1
  refine ⟨h.good.next ho, hn, fun i hi m hm => ?_, ?_, ?_, ?_⟩
  · rcases List.mem_append.1 ((next_perm S E i).mem_iff.1 hm) with hm | hm
    · exact h.size i hi m (List.mem_filter.1 hm).1
    · obtain ⟨p, hp, rfl⟩ := List.mem_map.1 hm
      exact (ho.2.2.1.1 p (List.mem_filter.1 hp).1).1.2.2.2.2.1
  · have := h.log0; show 0 ≤ E.log; omega
  · have := h.next0; show 0 ≤ E.next; omega
  · have := h.seq0; show 0 ≤ E.seq; omega
theorem next_len {S : VerV} {E : EditV} (ho : okV S E) : (flat (nextV S E)).length ≤ (flat S).length + E.add.length := by
  have := (next_files (S := S) (E := E) (ok_levels ho)).length_eq
  simp only [filesOf, List.length_map, List.length_append] at this
  have h2 : (keptP E.drop (flat S)).length ≤ (flat S).length := List.length_filter_le _ _
  omega
theorem lv_len (S : VerV) (i : Nat) (hi : i < 4) : (S.lv i).length ≤ (flat S).length := by
  unfold flat atLevel
  simp only [List.length_append, List.length_map]
  match i, hi with
  | 0, _ => omega
  | 1, _ => omega
  | 2, _ => omega
  | 3, _ => omega
/-- The program's version in one box, the document's in another. -/
structure Two (w : World) (g1 g2 : Nat) (S : VerV) : Prop where
  fine : Fine S
  ex : ∃ L v, VerAt w L S.lv ∧ Lst docC w v (flat S) ∧ Blk w g1 29 #[L 0, L 1, L 2, L 3, .int .i64 S.log, .int .i64 S.next, .int .i64 S.seq] ∧ Blk w g2 32 #[v, .int .i64 S.log, .int .i64 S.next, .int .i64 S.seq]
theorem Two.same {w w' : World} {g1 g2 : Nat} {S : VerV} (h : Two w g1 g2 S) (hc : Chg (fun _ => False) w w') : Two w' g1 g2 S := by
  obtain ⟨hf, L, v, h1, h2, h3, h4⟩ := h
  exact ⟨hf, L, v, h1.same hc, h2.same hc, h3.chg hc (by simp), h4.chg hc (by simp)⟩
theorem Two.lt_ {w : World} {g1 g2 : Nat} {S : VerV} (h : Two w g1 g2 S) : g1 < w.heap.size ∧ g2 < w.heap.size := by
  obtain ⟨_, L, v, _, _, h3, h4⟩ := h
  exact ⟨h3.lt, h4.lt⟩
theorem len_step {a b c k : Nat} (h : a ≤ k * 1048576) (h2 : c ≤ a + b) (hb : b ≤ 1048576) : c ≤ (k + 1) * 1048576 := by
  rw [Nat.add_mul]; omega
/-- .. each level by its form. -/
theorem Two.open_ {w : World} {g1 g2 : Nat} {S : VerV} (h : Two w g1 g2 S) : ∃ a0 a1 a2 a3 av n0 n1 n2 n3 nv c0 c1 c2 c3 cv,
    VerAt w (Lv (.slice a0 n0 c0) (.slice a1 n1 c1) (.slice a2 n2 c2) (.slice a3 n3 c3)) S.lv ∧ Lst docC w (.slice av nv cv) (flat S) ∧
    Blk w g1 29 #[.slice a0 n0 c0, .slice a1 n1 c1, .slice a2 n2 c2, .slice a3 n3 c3, .int .i64 S.log, .int .i64 S.next, .int .i64 S.seq] ∧ Blk w g2 32 #[.slice av nv cv, .int .i64 S.log, .int .i64 S.next, .int .i64 S.seq] := by
  obtain ⟨hf, L, v, h1, h2, h3, h4⟩ := h
  obtain ⟨a0, c0, e0, _⟩ := meta_form (h1 0 (by omega))
  obtain ⟨a1, c1, e1, _⟩ := meta_form (h1 1 (by omega))
  obtain ⟨a2, c2, e2, _⟩ := meta_form (h1 2 (by omega))
  obtain ⟨a3, c3, e3, _⟩ := meta_form (h1 3 (by omega))
  obtain ⟨av, cv, rfl, _⟩ := doc_form h2
  have := Lv_all L h1
  rw [e0, e1, e2, e3] at this h3
  exact ⟨_, _, _, _, _, _, _, _, _, _, _, _, _, _, _, this, h2, h3, h4⟩
theorem Two.mk_ {w : World} {g1 g2 : Nat} {S : VerV} (hf : Fine S) {l0 l1 l2 l3 v : Value} (h1 : VerAt w (Lv l0 l1 l2 l3) S.lv) (h2 : Lst docC w v (flat S))
    (h3 : Blk w g1 29 #[l0, l1, l2, l3, .int .i64 S.log, .int .i64 S.next, .int .i64 S.seq]) (h4 : Blk w g2 32 #[v, .int .i64 S.log, .int .i64 S.next, .int .i64 S.seq]) : Two w g1 g2 S := ⟨hf, _, v, h1, h2, h3, h4⟩

/-! ### Apply, by an edit that can be and by one that can't -/
theorem va_yes (S : VerV) (E : EditV) (l0 l1 l2 l3 av dv : Value) (w : World) (hF : Fine S) (hE : EdFine E) (hv : VerAt w (Lv l0 l1 l2 l3) S.lv) (ha : Lst placeC w av E.add) (hd : Lst i64C w dv E.drop) (hl : (flat S).length ≤ 41943040) (hok : okV S E) :
    Calls Tryz.prog 24 #[.agg #[l0, l1, l2, l3, .int .i64 S.log, .int .i64 S.next, .int .i64 S.seq], .agg #[av, dv, .int .i64 E.log, .int .i64 E.next, .int .i64 E.seq]] w
      fun e w' => ∃ a0 a1 a2 a3 n0 n1 n2 n3 c0 c1 c2 c3, e = .returned (.tuple #[.agg #[.slice a0 n0 c0, .slice a1 n1 c1, .slice a2 n2 c2, .slice a3 n3 c3, .int .i64 E.log, .int .i64 E.next, .int .i64 E.seq], .int .i64 0]) ∧
        VerAt w' (Lv (.slice a0 n0 c0) (.slice a1 n1 c1) (.slice a2 n2 c2) (.slice a3 n3 c3)) (nextV S E).lv ∧ Chg (fun _ => False) w w' := by
  have := hE.add
  have := hE.drop
  refine (ver_apply S E (Lv l0 l1 l2 l3) av dv w hF.good hE.ok hF.nx hv ha hd (fun i hi => by have := lv_len S i hi; omega) (by omega) (by omega)).mono ?_
  rintro e w' ⟨hc, ⟨_, L, rfl, hv, _⟩ | ⟨hno, _⟩⟩
  · obtain ⟨a0, c0, e0, _⟩ := meta_form (hv 0 (by omega))
    obtain ⟨a1, c1, e1, _⟩ := meta_form (hv 1 (by omega))
    obtain ⟨a2, c2, e2, _⟩ := meta_form (hv 2 (by omega))
    obtain ⟨a3, c3, e3, _⟩ := meta_form (hv 3 (by omega))
    have hv' := Lv_all L hv
    rw [e0, e1, e2, e3] at hv'
    exact ⟨_, _, _, _, _, _, _, _, _, _, _, _, by rw [e0, e1, e2, e3], hv', hc⟩
  · exact absurd hok hno
theorem va_no (S : VerV) (E : EditV) (l0 l1 l2 l3 av dv : Value) (w : World) (hF : Fine S) (hE : EdFine E) (hv : VerAt w (Lv l0 l1 l2 l3) S.lv) (ha : Lst placeC w av E.add) (hd : Lst i64C w dv E.drop) (hl : (flat S).length ≤ 41943040) (hok : ¬ okV S E) :
    Calls Tryz.prog 24 #[.agg #[l0, l1, l2, l3, .int .i64 S.log, .int .i64 S.next, .int .i64 S.seq], .agg #[av, dv, .int .i64 E.log, .int .i64 E.next, .int .i64 E.seq]] w
      fun e w' => e = .returned (.tuple #[.agg #[.slice none 0 0, .slice none 0 0, .slice none 0 0, .slice none 0 0, .int .i64 0, .int .i64 0, .int .i64 0], .int .i64 17]) ∧ Chg (fun _ => False) w w' := by
  have := hE.add
  have := hE.drop
  refine (ver_apply S E (Lv l0 l1 l2 l3) av dv w hF.good hE.ok hF.nx hv ha hd (fun i hi => by have := lv_len S i hi; omega) (by omega) (by omega)).mono ?_
  rintro e w' ⟨hc, ⟨h, _⟩ | ⟨_, rfl⟩⟩
  · exact absurd h hok
  · exact ⟨rfl, hc⟩
theorem da_yes (S : VerV) (E : EditV) (v av dv : Value) (w : World) (hE : EdFine E) (hv : Lst docC w v (flat S)) (ha : Lst docC w av E.add) (hd : Lst i64C w dv E.drop) (hl : (flat S).length ≤ 41943040) (hok : okV S E) :
    Calls Tryz.prog 23 #[.agg #[v, .int .i64 S.log, .int .i64 S.next, .int .i64 S.seq], .agg #[av, dv, .int .i64 E.log, .int .i64 E.next, .int .i64 E.seq]] w
      fun e w' => ∃ a n c, e = .returned (.tuple #[.agg #[.slice a n c, .int .i64 E.log, .int .i64 E.next, .int .i64 E.seq], .int .i64 0]) ∧ Lst docC w' (.slice a n c) (flat (nextV S E)) ∧ Chg (fun _ => False) w w' := by
  have := hE.add
  have := hE.drop
  refine (doc_apply S E v av dv w hv ha hd (by omega) (by omega) (by omega)).mono ?_
  rintro e w' ⟨hc, ⟨_, v, rfl, hv, _⟩ | ⟨hno, _⟩⟩
  · obtain ⟨a, c, rfl, _⟩ := doc_form hv
    exact ⟨_, _, _, rfl, hv, hc⟩
  · exact absurd hok hno
theorem da_no (S : VerV) (E : EditV) (v av dv : Value) (w : World) (hE : EdFine E) (hv : Lst docC w v (flat S)) (ha : Lst docC w av E.add) (hd : Lst i64C w dv E.drop) (hl : (flat S).length ≤ 41943040) (hok : ¬ okV S E) :
    Calls Tryz.prog 23 #[.agg #[v, .int .i64 S.log, .int .i64 S.next, .int .i64 S.seq], .agg #[av, dv, .int .i64 E.log, .int .i64 E.next, .int .i64 E.seq]] w
      fun e w' => e = .returned (.tuple #[.agg #[.slice none 0 0, .int .i64 0, .int .i64 0, .int .i64 0], .int .i64 17]) ∧ Chg (fun _ => False) w w' := by
  have := hE.add
  have := hE.drop
  refine (doc_apply S E v av dv w hv ha hd (by omega) (by omega) (by omega)).mono ?_
  rintro e w' ⟨hc, ⟨h, _⟩ | ⟨_, rfl⟩⟩
  · exact absurd h hok
  · exact ⟨rfl, hc⟩
/-- edits, each slice by its form. -/
theorem le_form (E : EditV) (av dv : Value) (w : World) (hE : EdFine E) (ha : ReadRows w av E.add) (hd : ReadInts w dv E.drop) :
    Calls Tryz.prog 14 #[.agg #[av, dv, .int .i64 E.log, .int .i64 E.next, .int .i64 E.seq]] w fun e w' => ∃ a1 n1 c1 a2 n2 c2 a3 n3 c3 a4 n4 c4, e = .returned (.tuple #[.agg #[.slice a1 n1 c1, .slice a2 n2 c2, .int .i64 E.log, .int .i64 E.next, .int .i64 E.seq], .agg #[.slice a3 n3 c3, .slice a4 n4 c4, .int .i64 E.log, .int .i64 E.next, .int .i64 E.seq]]) ∧
      Lst placeC w' (.slice a1 n1 c1) E.add ∧ Lst i64C w' (.slice a2 n2 c2) E.drop ∧ Lst docC w' (.slice a3 n3 c3) E.add ∧ Lst i64C w' (.slice a4 n4 c4) E.drop ∧ Chg (fun _ => False) w w' := by
  have := hE.add
  have := hE.drop
  refine (law_edits E av dv w ha hd (by omega) (by omega)).mono ?_
  rintro e w' ⟨v1, v2, v3, v4, rfl, h1, h2, h3, h4, hc⟩
  obtain ⟨a1, c1, rfl, _⟩ := place_form h1
  obtain ⟨a2, c2, rfl, _⟩ := i64_form h2
  obtain ⟨a3, c3, rfl, _⟩ := doc_form h3
  obtain ⟨a4, c4, rfl, _⟩ := i64_form h4
  exact ⟨_, _, _, _, _, _, _, _, _, _, _, _, rfl, h1, h2, h3, h4, hc⟩
/-- A version was put into other boxes. -/
theorem Two.put {w w' : World} {q1 q2 : Nat} {S S' : VerV} {l0 l1 l2 l3 v : Value} (h : Two w q1 q2 S') (hf : Fine S) (h1 : VerAt w (Lv l0 l1 l2 l3) S.lv) (h2 : Lst docC w v (flat S)) (hc : Chg (fun k => k = q1 ∨ k = q2) w w')
    (hb1 : Blk w' q1 29 #[l0, l1, l2, l3, .int .i64 S.log, .int .i64 S.next, .int .i64 S.seq]) (hb2 : Blk w' q2 32 #[v, .int .i64 S.log, .int .i64 S.next, .int .i64 S.seq]) : Two w' q1 q2 S := by
  obtain ⟨_, L', v', _, _, hB1, hB2⟩ := h
  refine Two.mk_ hf (fun i hi => (h1 i hi).chg hc fun k hk e => ?_) (h2.chg hc fun k hk e => ?_) hb1 hb2
  · obtain ⟨cs, hb⟩ := (h1 i hi).typed hk
    rcases e with e | e
    · subst e; exact hb.ne_ hB1 (by decide) rfl
    · subst e; exact hb.ne_ hB2 (by decide) rfl
  · obtain ⟨cs, hb⟩ := h2.typed hk
    rcases e with e | e
    · subst e; exact hb.ne_ hB1 (by decide) rfl
    · subst e; exact hb.ne_ hB2 (by decide) rfl
end Go.Proofs.YtahahginmgidjaaGreatDoor

