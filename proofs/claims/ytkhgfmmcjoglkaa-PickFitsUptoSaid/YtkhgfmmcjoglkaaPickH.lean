/-
  The ends of the walk of PickFits' edit: the five shapes of memory behind it. Plain lemmas; no condition.
-/
import Derived.Test.YtkhgfmmcjoglkaaPickP
namespace Go.Proofs.Ytkhgfmmcjoglkaa
open Go.RowKit
set_option linter.unusedVariables false
set_option linter.unusedSimpArgs false

section
variable {w W : World} {g gA : Nat} {a b c d e : Value} {a9 : Option Addr} {p9 : Nat} {lv f sz l n s : Int} {LO HI : ByteArray} {D : List Int}
theorem place_one {w : World} (h : Blk w gA 46 #[.int .i64 lv, .int .i64 f, .int .i64 sz, .string LO, .string HI]) : Lst placeC w (.slice (some ⟨gA, 0, none⟩) 1 1) [⟨lv, ⟨f, sz, LO, HI⟩⟩] :=
  Lst.of_block (l := [⟨lv, ⟨f, sz, LO, HI⟩⟩]) placeOk h rfl (by simp)
theorem leaf1 (hz : Blk w g 49 #[a, b, c, d, e]) (hA : Blk w gA 46 #[.int .i64 lv, .int .i64 f, .int .i64 sz, .string LO, .string HI]) (hD : Lst i64C w (.slice a9 D.length p9) D) (hW : Chg (fun _ => False) W w) (hg : W.heap.size ≤ g) :
    ∃ (g' gA' : Nat) (a8 : Option Addr) (c8 : Nat), Value.pointer (some ⟨g, 0, none⟩) = .pointer (some ⟨g', 0, none⟩) ∧ W.heap.size ≤ g' ∧
      Blk (((((w.setCell ⟨g, 0, none⟩ (.slice (some ⟨gA, 0, none⟩) 1 1)).setCell ⟨g, 1, none⟩ (.slice a9 D.length p9)).setCell ⟨g, 2, none⟩ (.int .i64 l)).setCell ⟨g, 3, none⟩ (.int .i64 n)).setCell ⟨g, 4, none⟩ (.int .i64 s)) g' 49 #[.slice (some ⟨gA', 0, none⟩) 1 1, .slice a8 D.length c8, .int .i64 l, .int .i64 n, .int .i64 s] ∧
      Lst placeC (((((w.setCell ⟨g, 0, none⟩ (.slice (some ⟨gA, 0, none⟩) 1 1)).setCell ⟨g, 1, none⟩ (.slice a9 D.length p9)).setCell ⟨g, 2, none⟩ (.int .i64 l)).setCell ⟨g, 3, none⟩ (.int .i64 n)).setCell ⟨g, 4, none⟩ (.int .i64 s)) (.slice (some ⟨gA', 0, none⟩) 1 1) [⟨lv, ⟨f, sz, LO, HI⟩⟩] ∧
      Lst i64C (((((w.setCell ⟨g, 0, none⟩ (.slice (some ⟨gA, 0, none⟩) 1 1)).setCell ⟨g, 1, none⟩ (.slice a9 D.length p9)).setCell ⟨g, 2, none⟩ (.int .i64 l)).setCell ⟨g, 3, none⟩ (.int .i64 n)).setCell ⟨g, 4, none⟩ (.int .i64 s)) (.slice a8 D.length c8) D ∧
      Chg (fun _ => False) W (((((w.setCell ⟨g, 0, none⟩ (.slice (some ⟨gA, 0, none⟩) 1 1)).setCell ⟨g, 1, none⟩ (.slice a9 D.length p9)).setCell ⟨g, 2, none⟩ (.int .i64 l)).setCell ⟨g, 3, none⟩ (.int .i64 n)).setCell ⟨g, 4, none⟩ (.int .i64 s)) := by
  obtain ⟨h1, h2, h3, h4⟩ := fits_put (a8 := a) (p := ⟨lv, ⟨f, sz, LO, HI⟩⟩) (l := l) (n := n) (s := s) hz hA hD hW hg rfl
  exact ⟨g, gA, a9, p9, rfl, hg, h1, h2, h3, h4⟩
theorem leaf5 (hz : Blk w g 49 #[a, b, c, d, e]) (hD : Lst i64C w (.slice a9 D.length p9) D) (hW : Chg (fun _ => False) W w) (hg : W.heap.size ≤ g) :
    ∃ (g' gA' : Nat) (a8 : Option Addr) (c8 : Nat), Value.pointer (some ⟨g, 0, none⟩) = .pointer (some ⟨g', 0, none⟩) ∧ W.heap.size ≤ g' ∧
      Blk ((((((w.setCell ⟨g, 0, none⟩ (.slice (some ⟨w.heap.size, 0, none⟩) 1 1)).setCell ⟨g, 1, none⟩ (.slice a9 D.length p9)).setCell ⟨g, 2, none⟩ (.int .i64 l)).setCell ⟨g, 3, none⟩ (.int .i64 n)).setCell ⟨g, 4, none⟩ (.int .i64 s)).alloc (.cells #[.int .i64 lv, .int .i64 f, .int .i64 sz, .string LO, .string HI] 46)) g' 49 #[.slice (some ⟨gA', 0, none⟩) 1 1, .slice a8 D.length c8, .int .i64 l, .int .i64 n, .int .i64 s] ∧
      Lst placeC ((((((w.setCell ⟨g, 0, none⟩ (.slice (some ⟨w.heap.size, 0, none⟩) 1 1)).setCell ⟨g, 1, none⟩ (.slice a9 D.length p9)).setCell ⟨g, 2, none⟩ (.int .i64 l)).setCell ⟨g, 3, none⟩ (.int .i64 n)).setCell ⟨g, 4, none⟩ (.int .i64 s)).alloc (.cells #[.int .i64 lv, .int .i64 f, .int .i64 sz, .string LO, .string HI] 46)) (.slice (some ⟨gA', 0, none⟩) 1 1) [⟨lv, ⟨f, sz, LO, HI⟩⟩] ∧
      Lst i64C ((((((w.setCell ⟨g, 0, none⟩ (.slice (some ⟨w.heap.size, 0, none⟩) 1 1)).setCell ⟨g, 1, none⟩ (.slice a9 D.length p9)).setCell ⟨g, 2, none⟩ (.int .i64 l)).setCell ⟨g, 3, none⟩ (.int .i64 n)).setCell ⟨g, 4, none⟩ (.int .i64 s)).alloc (.cells #[.int .i64 lv, .int .i64 f, .int .i64 sz, .string LO, .string HI] 46)) (.slice a8 D.length c8) D ∧
      Chg (fun _ => False) W ((((((w.setCell ⟨g, 0, none⟩ (.slice (some ⟨w.heap.size, 0, none⟩) 1 1)).setCell ⟨g, 1, none⟩ (.slice a9 D.length p9)).setCell ⟨g, 2, none⟩ (.int .i64 l)).setCell ⟨g, 3, none⟩ (.int .i64 n)).setCell ⟨g, 4, none⟩ (.int .i64 s)).alloc (.cells #[.int .i64 lv, .int .i64 f, .int .i64 sz, .string LO, .string HI] 46)) := by
  obtain ⟨w2, hw2⟩ : ∃ w2, w2 = ((((w.setCell ⟨g, 0, none⟩ (.slice (some ⟨w.heap.size, 0, none⟩) 1 1)).setCell ⟨g, 1, none⟩ (.slice a9 D.length p9)).setCell ⟨g, 2, none⟩ (.int .i64 l)).setCell ⟨g, 3, none⟩ (.int .i64 n)).setCell ⟨g, 4, none⟩ (.int .i64 s) := ⟨_, rfl⟩
  rw [← hw2]
  have hc : Chg (fun j => j = g) w w2 := by rw [hw2]; ((repeat (first | with_reducible exact Chg.refl _ _ | with_reducible assumption | with_reducible refine Chg.drewN ?_ _ | with_reducible refine Chg.drew ?_ | with_reducible refine Chg.alloc ?_ _ | with_reducible refine Chg.setCell ?_ (by first | (simp; done) | (simp; omega) | (intro h; simp at h; omega)) _)))
  have hsz : w2.heap.size = w.heap.size := by rw [hw2]; simp
  have h9 : Blk w2 g 49 #[.slice (some ⟨w.heap.size, 0, none⟩) 1 1, .slice a9 D.length p9, .int .i64 l, .int .i64 n, .int .i64 s] := by
    rw [hw2]
    have h9 := ((((hz.set_ 0 (.slice (some ⟨w.heap.size, 0, none⟩) 1 1)).set_ 1 (.slice a9 D.length p9)).set_ 2 (.int .i64 l)).set_ 3 (.int .i64 n)).set_ 4 (.int .i64 s)
    simp at h9
    exact h9
  have hA := Blk.new w2 46 #[.int .i64 lv, .int .i64 f, .int .i64 sz, .string LO, .string HI]
  rw [hsz] at hA
  refine ⟨g, w.heap.size, a9, p9, rfl, hg, h9.alloc _, place_one hA, (hD.chg hc fun k hk e => ?_).same ((Chg.refl _ _).alloc _), (hW.own hc hg).alloc _⟩
  subst e
  obtain ⟨cs, hb⟩ := hD.typed hk
  exact hb.ne_ hz (by decide) rfl
theorem leaf2 (hA : Blk w gA 46 #[.int .i64 lv, .int .i64 f, .int .i64 sz, .string LO, .string HI]) (hD : Lst i64C w (.slice a9 D.length p9) D) (hW : Chg (fun _ => False) W w) :
    ∃ (g' gA' : Nat) (a8 : Option Addr) (c8 : Nat), Value.pointer (some ⟨w.heap.size, 0, none⟩) = .pointer (some ⟨g', 0, none⟩) ∧ W.heap.size ≤ g' ∧
      Blk (w.alloc (.cells #[.slice (some ⟨gA, 0, none⟩) 1 1, .slice a9 D.length p9, .int .i64 l, .int .i64 n, .int .i64 s] 49)) g' 49 #[.slice (some ⟨gA', 0, none⟩) 1 1, .slice a8 D.length c8, .int .i64 l, .int .i64 n, .int .i64 s] ∧
      Lst placeC (w.alloc (.cells #[.slice (some ⟨gA, 0, none⟩) 1 1, .slice a9 D.length p9, .int .i64 l, .int .i64 n, .int .i64 s] 49)) (.slice (some ⟨gA', 0, none⟩) 1 1) [⟨lv, ⟨f, sz, LO, HI⟩⟩] ∧
      Lst i64C (w.alloc (.cells #[.slice (some ⟨gA, 0, none⟩) 1 1, .slice a9 D.length p9, .int .i64 l, .int .i64 n, .int .i64 s] 49)) (.slice a8 D.length c8) D ∧
      Chg (fun _ => False) W (w.alloc (.cells #[.slice (some ⟨gA, 0, none⟩) 1 1, .slice a9 D.length p9, .int .i64 l, .int .i64 n, .int .i64 s] 49)) :=
  ⟨w.heap.size, gA, a9, p9, rfl, hW.size, Blk.new _ _ _, place_one (hA.alloc _), hD.same ((Chg.refl _ _).alloc _), hW.alloc _⟩
theorem leaf3 (hD : Lst i64C w (.slice a9 D.length p9) D) (hW : Chg (fun _ => False) W w) :
    ∃ (g' gA' : Nat) (a8 : Option Addr) (c8 : Nat), Value.pointer (some ⟨w.heap.size + 1, 0, none⟩) = .pointer (some ⟨g', 0, none⟩) ∧ W.heap.size ≤ g' ∧
      Blk ((w.alloc (.cells #[.int .i64 lv, .int .i64 f, .int .i64 sz, .string LO, .string HI] 46)).alloc (.cells #[.slice (some ⟨w.heap.size, 0, none⟩) 1 1, .slice a9 D.length p9, .int .i64 l, .int .i64 n, .int .i64 s] 49)) g' 49 #[.slice (some ⟨gA', 0, none⟩) 1 1, .slice a8 D.length c8, .int .i64 l, .int .i64 n, .int .i64 s] ∧
      Lst placeC ((w.alloc (.cells #[.int .i64 lv, .int .i64 f, .int .i64 sz, .string LO, .string HI] 46)).alloc (.cells #[.slice (some ⟨w.heap.size, 0, none⟩) 1 1, .slice a9 D.length p9, .int .i64 l, .int .i64 n, .int .i64 s] 49)) (.slice (some ⟨gA', 0, none⟩) 1 1) [⟨lv, ⟨f, sz, LO, HI⟩⟩] ∧
      Lst i64C ((w.alloc (.cells #[.int .i64 lv, .int .i64 f, .int .i64 sz, .string LO, .string HI] 46)).alloc (.cells #[.slice (some ⟨w.heap.size, 0, none⟩) 1 1, .slice a9 D.length p9, .int .i64 l, .int .i64 n, .int .i64 s] 49)) (.slice a8 D.length c8) D ∧
      Chg (fun _ => False) W ((w.alloc (.cells #[.int .i64 lv, .int .i64 f, .int .i64 sz, .string LO, .string HI] 46)).alloc (.cells #[.slice (some ⟨w.heap.size, 0, none⟩) 1 1, .slice a9 D.length p9, .int .i64 l, .int .i64 n, .int .i64 s] 49)) :=
  ⟨w.heap.size + 1, w.heap.size, a9, p9, rfl, Nat.le_succ_of_le hW.size, Blk.new1 _ _ _ _, place_one ((Blk.new w _ _).alloc _), hD.same (((Chg.refl _ _).alloc _).alloc _), (hW.alloc _).alloc _⟩
theorem leaf4 (hD : Lst i64C w (.slice a9 D.length p9) D) (hW : Chg (fun _ => False) W w) :
    ∃ (g' gA' : Nat) (a8 : Option Addr) (c8 : Nat), Value.pointer (some ⟨w.heap.size, 0, none⟩) = .pointer (some ⟨g', 0, none⟩) ∧ W.heap.size ≤ g' ∧
      Blk ((w.alloc (.cells #[.slice (some ⟨w.heap.size + 1, 0, none⟩) 1 1, .slice a9 D.length p9, .int .i64 l, .int .i64 n, .int .i64 s] 49)).alloc (.cells #[.int .i64 lv, .int .i64 f, .int .i64 sz, .string LO, .string HI] 46)) g' 49 #[.slice (some ⟨gA', 0, none⟩) 1 1, .slice a8 D.length c8, .int .i64 l, .int .i64 n, .int .i64 s] ∧
      Lst placeC ((w.alloc (.cells #[.slice (some ⟨w.heap.size + 1, 0, none⟩) 1 1, .slice a9 D.length p9, .int .i64 l, .int .i64 n, .int .i64 s] 49)).alloc (.cells #[.int .i64 lv, .int .i64 f, .int .i64 sz, .string LO, .string HI] 46)) (.slice (some ⟨gA', 0, none⟩) 1 1) [⟨lv, ⟨f, sz, LO, HI⟩⟩] ∧
      Lst i64C ((w.alloc (.cells #[.slice (some ⟨w.heap.size + 1, 0, none⟩) 1 1, .slice a9 D.length p9, .int .i64 l, .int .i64 n, .int .i64 s] 49)).alloc (.cells #[.int .i64 lv, .int .i64 f, .int .i64 sz, .string LO, .string HI] 46)) (.slice a8 D.length c8) D ∧
      Chg (fun _ => False) W ((w.alloc (.cells #[.slice (some ⟨w.heap.size + 1, 0, none⟩) 1 1, .slice a9 D.length p9, .int .i64 l, .int .i64 n, .int .i64 s] 49)).alloc (.cells #[.int .i64 lv, .int .i64 f, .int .i64 sz, .string LO, .string HI] 46)) :=
  ⟨w.heap.size, w.heap.size + 1, a9, p9, rfl, hW.size, (Blk.new _ _ _).alloc _, place_one (Blk.new1 w _ _ _), hD.same (((Chg.refl _ _).alloc _).alloc _), (hW.alloc _).alloc _⟩
end
end Go.Proofs.Ytkhgfmmcjoglkaa
