/-
  The budget: contracts of Reserve, Release, Change, Of, Used, High, Left.
  The document's budget: contracts of every function of package oxbowref05.
  The functions beside the laws of layer 5: wakes, act, same.
  The cache: raw contracts of its small functions.
  The ring of a cache in memory: a list of nodes, the one used longest ago first. Plain lemmas on memory; no program's text.
  The cache in memory, whole; contracts of out, last, find, Get, Pin, Unpin.
  The cache: contracts of find, Get, Pin, Unpin.
  The cache: contracts of Pin, Unpin, drop.
  The cache: the contract of drop.
-/
import Derived.Test.YtljabmkmngbhkaaGreatDoorZMg22
import Derived.Deep.RegionHeld3
import Derived.Test.YtljabmkmngbhkaaGreatDoorZMg02
import Derived.Test.YtljabmkmngbhkaaGreatDoorZMg00
import Derived.Deep.DeepMust
import Derived.DeepKeys4
namespace Go.Proofs.YtljabmkmngbhkaaGreatDoor
open Go.RowKit
set_option linter.unusedVariables false
set_option linter.unusedSimpArgs false

theorem bud_add (g : Nat) (B : Bud) (k n : Int) (w : World) (hb : BudAt w g B) (hk0 : 0 ≤ k) (hk4 : k < 4) (h0 : 0 ≤ B.of k + n) (hn : n ≤ B.l - B.u) :
    Calls Tryz.prog 93 #[.pointer (some ⟨g, 0, none⟩), .int .i64 k, .int .i64 n] w fun e w' => e = .returned (.int .i64 0) ∧ BudAt w' g (B.put k (B.of k + n)) ∧ Chg (fun k => k = g) w w' := by
  have hgood := Bud.put_good (k := k) (x := B.of k + n) hb.good h0 (by have := hb.good.uh; omega)
  obtain ⟨l, u, h, a, b, c, d⟩ := B
  obtain ⟨hb, l0, l1, a0, b0, c0, d0, u0, uh, hl⟩ := hb
  simp only at *
  rcases kind_cases hk0 hk4 with rfl | rfl | rfl | rfl <;> simp [Bud.of, Bud.put] at h0 hgood ⊢ <;> by_cases hup : h < u + n
  · refine (bud_add_up0 g l u h a b c d n w hb (by omega) (by omega) l1 hn a0 (by omega) h0 (by omega) hup).mono ?_
    rintro e w' ⟨rfl, h1, h2⟩
    exact ⟨rfl, ⟨by simpa [show u - a + (a + n) = u + n from by omega, hup] using h1, hgood⟩, h2⟩
  · refine (bud_add_stay0 g l u h a b c d n w hb (by omega) (by omega) l1 hn a0 (by omega) h0 (by omega) (by omega)).mono ?_
    rintro e w' ⟨rfl, h1, h2⟩
    exact ⟨rfl, ⟨by simpa [show u - a + (a + n) = u + n from by omega, hup] using h1, hgood⟩, h2⟩
  · refine (bud_add_up1 g l u h a b c d n w hb (by omega) (by omega) l1 hn b0 (by omega) h0 (by omega) hup).mono ?_
    rintro e w' ⟨rfl, h1, h2⟩
    exact ⟨rfl, ⟨by simpa [show u - b + (b + n) = u + n from by omega, hup] using h1, hgood⟩, h2⟩
  · refine (bud_add_stay1 g l u h a b c d n w hb (by omega) (by omega) l1 hn b0 (by omega) h0 (by omega) (by omega)).mono ?_
    rintro e w' ⟨rfl, h1, h2⟩
    exact ⟨rfl, ⟨by simpa [show u - b + (b + n) = u + n from by omega, hup] using h1, hgood⟩, h2⟩
  · refine (bud_add_up2 g l u h a b c d n w hb (by omega) (by omega) l1 hn c0 (by omega) h0 (by omega) hup).mono ?_
    rintro e w' ⟨rfl, h1, h2⟩
    exact ⟨rfl, ⟨by simpa [show u - c + (c + n) = u + n from by omega, hup] using h1, hgood⟩, h2⟩
  · refine (bud_add_stay2 g l u h a b c d n w hb (by omega) (by omega) l1 hn c0 (by omega) h0 (by omega) (by omega)).mono ?_
    rintro e w' ⟨rfl, h1, h2⟩
    exact ⟨rfl, ⟨by simpa [show u - c + (c + n) = u + n from by omega, hup] using h1, hgood⟩, h2⟩
  · refine (bud_add_up3 g l u h a b c d n w hb (by omega) (by omega) l1 hn d0 (by omega) h0 (by omega) hup).mono ?_
    rintro e w' ⟨rfl, h1, h2⟩
    exact ⟨rfl, ⟨by simpa [show u - d + (d + n) = u + n from by omega, hup] using h1, hgood⟩, h2⟩
  · refine (bud_add_stay3 g l u h a b c d n w hb (by omega) (by omega) l1 hn d0 (by omega) h0 (by omega) (by omega)).mono ?_
    rintro e w' ⟨rfl, h1, h2⟩
    exact ⟨rfl, ⟨by simpa [show u - d + (d + n) = u + n from by omega, hup] using h1, hgood⟩, h2⟩

theorem bud_add_refuses (g : Nat) (B : Bud) (k n : Int) (w : World) (hb : BudAt w g B) (hn : B.l - B.u < n) :
    Calls Tryz.prog 93 #[.pointer (some ⟨g, 0, none⟩), .int .i64 k, .int .i64 n] w fun e w' => e = .returned (.int .i64 14) ∧ BudAt w' g B ∧ Chg (fun k => k = g) w w' := by
  have hg := hb
  obtain ⟨l, u, h, a, b, c, d⟩ := B
  obtain ⟨hb, l0, l1, a0, b0, c0, d0, u0, uh, hl⟩ := hb
  simp only at *
  refine (bud_add_no g l u h a b c d k n w hb (by omega) (by omega) l1 hn).mono ?_
  rintro e w' ⟨rfl, h2⟩
  exact ⟨rfl, hg.chg h2 (by simp), h2.mono (by simp)⟩

theorem bud_of_cell {w : World} {g : Nat} {B : Bud} (hb : BudAt w g B) {k : Int} (hk0 : 0 ≤ k) (hk4 : k < 4) : w.cell? ⟨g, 3 + k.toNat, none⟩ = some (.int .i64 (B.of k)) := by
  rcases kind_cases hk0 hk4 with rfl | rfl | rfl | rfl
  · exact hb.blk.cell 3
  · exact hb.blk.cell 4
  · exact hb.blk.cell 5
  · exact hb.blk.cell 6

/-- Reserve. -/
theorem bud_reserve (g : Nat) (B : Bud) (k n : Int) (w : World) (hb : BudAt w g B) :
    Calls Tryz.prog 84 #[.pointer (some ⟨g, 0, none⟩), .int .i64 k, .int .i64 n] w fun e w' => e = .returned (.int .i64 (B.reserve k n).1) ∧ BudAt w' g (B.reserve k n).2 ∧ Chg (fun k => k = g) w w' := by
  have hof := Bud.of_bd hb.good k
  unfold Bud.reserve
  by_cases h1 : k < 0 ∨ 4 ≤ k ∨ n < 0
  · rw [if_pos h1]
    have hm := bud_may g k n w
    rw [if_pos h1] at hm
    go_enter Tryz.func84, Tryz.ntmps84
    go_wp2_with (go_at_call 80; refine hm.mono ?_; rintro e w' ⟨rfl, rfl⟩)
    go_ret
    exact ⟨rfl, hb, Chg.refl _ _⟩
  · rw [if_neg h1]
    have hm := bud_may g k n w
    rw [if_neg h1] at hm
    by_cases h2 : B.l - B.u < n
    · rw [if_pos h2]
      go_enter Tryz.func84, Tryz.ntmps84
      go_wp2_with (first | (go_at_call 80; refine hm.mono ?_; rintro e w' ⟨rfl, rfl⟩) | (go_at_call 93; refine (bud_add_refuses g B k n _ hb h2).mono ?_; rintro e w' ⟨rfl, hb', hc⟩))
      go_ret
      exact ⟨rfl, hb', hc⟩
    · rw [if_neg h2]
      go_enter Tryz.func84, Tryz.ntmps84
      go_wp2_with (first | (go_at_call 80; refine hm.mono ?_; rintro e w' ⟨rfl, rfl⟩) | (go_at_call 93; refine (bud_add g B k n _ hb (by omega) (by omega) (by omega) (by omega)).mono ?_; rintro e w' ⟨rfl, hb', hc⟩))
      go_ret
      exact ⟨rfl, hb', hc⟩

/-- Release. -/
theorem bud_release (g : Nat) (B : Bud) (k n : Int) (w : World) (hb : BudAt w g B) :
    Calls Tryz.prog 40 #[.pointer (some ⟨g, 0, none⟩), .int .i64 k, .int .i64 n] w fun e w' => e = .returned (.int .i64 (B.release k n).1) ∧ BudAt w' g (B.release k n).2 ∧ Chg (fun k => k = g) w w' := by
  have hof := Bud.of_bd hb.good k
  have hlim : B.u ≤ B.l := Int.le_trans hb.good.uh hb.good.hl
  have hlim2 := hb.good.l1
  unfold Bud.release
  by_cases h1 : k < 0 ∨ 4 ≤ k ∨ n < 0
  · rw [if_pos h1]
    have hm := bud_may g k n w
    rw [if_pos h1] at hm
    go_enter Tryz.func40, Tryz.ntmps40
    go_wp2_with (go_at_call 80; refine hm.mono ?_; rintro e w' ⟨rfl, rfl⟩)
    go_ret
    exact ⟨rfl, hb, Chg.refl _ _⟩
  · rw [if_neg h1]
    have hm := bud_may g k n w
    rw [if_neg h1] at hm
    have hk0 : 0 ≤ k := by omega
    have hk4 : k < 4 := by omega
    have hn0 : 0 ≤ n := by omega
    have hcell := bud_of_cell hb hk0 hk4
    by_cases h2 : B.of k < n
    · rw [if_pos h2]
      go_enter Tryz.func40, Tryz.ntmps40
      go_wp2_with (first | (go_at_call 80; refine hm.mono ?_; rintro e w' ⟨rfl, rfl⟩) | (go_at_call 62; refine (atomic_load _ _ (B.of k) _ hcell).mono ?_; rintro e w' ⟨rfl, rfl⟩))
      go_ret
      exact ⟨rfl, hb, Chg.refl _ _⟩
    · rw [if_neg h2]
      go_enter Tryz.func40, Tryz.ntmps40
      go_wp2_with (first | (go_at_call 80; refine hm.mono ?_; rintro e w' ⟨rfl, rfl⟩) | (go_at_call 62; refine (atomic_load _ _ (B.of k) _ hcell).mono ?_; rintro e w' ⟨rfl, rfl⟩) | (go_at_call 93; refine (bud_add g B k (-n) _ hb (by omega) (by omega) (by omega) (by omega)).mono ?_; rintro e w' ⟨rfl, hb', hc⟩))
      go_ret
      exact ⟨rfl, hb', hc⟩

/-- Change. -/
theorem bud_change (g : Nat) (B : Bud) (k n : Int) (w : World) (hb : BudAt w g B) (hnm : n ≤ 9223372036854775807) :
    Calls Tryz.prog 96 #[.pointer (some ⟨g, 0, none⟩), .int .i64 k, .int .i64 n] w fun e w' => e = .returned (.int .i64 (B.change k n).1) ∧ BudAt w' g (B.change k n).2 ∧ Chg (fun k => k = g) w w' := by
  have hof := Bud.of_bd hb.good k
  have hlim : B.u ≤ B.l := Int.le_trans hb.good.uh hb.good.hl
  have hlim2 := hb.good.l1
  unfold Bud.change
  by_cases h1 : k < 0 ∨ 4 ≤ k ∨ n < 0
  · rw [if_pos h1]
    have hm := bud_may g k n w
    rw [if_pos h1] at hm
    go_enter Tryz.func96, Tryz.ntmps96
    go_wp2_with (go_at_call 80; refine hm.mono ?_; rintro e w' ⟨rfl, rfl⟩)
    go_ret
    exact ⟨rfl, hb, Chg.refl _ _⟩
  · rw [if_neg h1]
    have hm := bud_may g k n w
    rw [if_neg h1] at hm
    have hk0 : 0 ≤ k := by omega
    have hk4 : k < 4 := by omega
    have hn0 : 0 ≤ n := by omega
    have hcell := bud_of_cell hb hk0 hk4
    by_cases h2 : B.l - B.u < n - B.of k
    · rw [if_pos h2]
      go_enter Tryz.func96, Tryz.ntmps96
      go_wp2_with (first | (go_at_call 80; refine hm.mono ?_; rintro e w' ⟨rfl, rfl⟩) | (go_at_call 62; refine (atomic_load _ _ (B.of k) _ hcell).mono ?_; rintro e w' ⟨rfl, rfl⟩) | (go_at_call 93; refine (bud_add_refuses g B k (n - B.of k) _ hb h2).mono ?_; rintro e w' ⟨rfl, hb', hc⟩))
      go_ret
      exact ⟨rfl, hb', hc⟩
    · rw [if_neg h2]
      have hp := bud_add g B k (n - B.of k) w hb (by omega) (by omega) (by omega) (by omega)
      rw [show B.of k + (n - B.of k) = n by omega] at hp
      go_enter Tryz.func96, Tryz.ntmps96
      go_wp2_with (first | (go_at_call 80; refine hm.mono ?_; rintro e w' ⟨rfl, rfl⟩) | (go_at_call 62; refine (atomic_load _ _ (B.of k) _ hcell).mono ?_; rintro e w' ⟨rfl, rfl⟩) | (go_at_call 93; refine hp.mono ?_; rintro e w' ⟨rfl, hb', hc⟩))
      go_ret
      exact ⟨rfl, hb', hc⟩

/-- Of: 0 of a kind that there is not. -/
theorem bud_of (g : Nat) (B : Bud) (k : Int) (w : World) (hb : BudAt w g B) :
    Calls Tryz.prog 34 #[.pointer (some ⟨g, 0, none⟩), .int .i64 k] w fun e w' => e = .returned (.int .i64 (B.of k)) ∧ w = w' := by
  by_cases h1 : k < 0 ∨ 4 ≤ k ∨ (0 : Int) < 0
  · have hm := bud_may g k 0 w
    rw [if_pos h1] at hm
    have hz : B.of k = 0 := by unfold Bud.of; split; omega; split; omega; split; omega; split; omega; rfl
    rw [hz]
    go_enter Tryz.func34, Tryz.ntmps34
    go_wp2_with (go_at_call 80; refine hm.mono ?_; rintro e w' ⟨rfl, rfl⟩)
    go_ret
    exact ⟨rfl, rfl⟩
  · have hm := bud_may g k 0 w
    rw [if_neg h1] at hm
    have hk0 : 0 ≤ k := by omega
    have hk4 : k < 4 := by omega
    have hcell := bud_of_cell hb hk0 hk4
    go_enter Tryz.func34, Tryz.ntmps34
    go_wp2_with (first | (go_at_call 80; refine hm.mono ?_; rintro e w' ⟨rfl, rfl⟩) | (go_at_call 62; refine (atomic_load _ _ (B.of k) _ hcell).mono ?_; rintro e w' ⟨rfl, rfl⟩))
    go_ret
    exact ⟨rfl, rfl⟩

theorem bud_used (g : Nat) (B : Bud) (w : World) (hb : BudAt w g B) :
    Calls Tryz.prog 24 #[.pointer (some ⟨g, 0, none⟩)] w fun e w' => e = .returned (.int .i64 B.u) ∧ w = w' := by
  have c1 := hb.blk.cell 1
  go_enter Tryz.func24, Tryz.ntmps24
  go_wp2_with (go_at_call 62; refine (atomic_load _ _ B.u _ c1).mono ?_; rintro e w' ⟨rfl, rfl⟩)
  go_ret
  exact ⟨rfl, rfl⟩
theorem bud_left (g : Nat) (B : Bud) (w : World) (hb : BudAt w g B) :
    Calls Tryz.prog 33 #[.pointer (some ⟨g, 0, none⟩)] w fun e w' => e = .returned (.int .i64 (B.l - B.u)) ∧ ∃ n, w.drewN n = w' := by
  have c0 := hb.blk.cell 0
  have c1 := hb.blk.cell 1
  simp at c0 c1
  have hu := hb.good.u0
  obtain ⟨l0, l1, a0, b0, c0', d0, u0, uh, hl⟩ := hb.good
  have hu0 : 0 ≤ B.u := by omega
  have hul : B.u ≤ B.l := by omega
  clear hu u0 uh hl a0 b0 c0' d0
  go_enter Tryz.func33, Tryz.ntmps33
  go_wp2
  go_quiet ((go_at_call 62; refine quiet_same (atomic_load _ _ B.u _ ?_); exact c1))
  go_wp2
  go_ret
  exact ⟨rfl, nq, rfl⟩
end Go.Proofs.YtljabmkmngbhkaaGreatDoor
namespace Go.Proofs.YtljabmkmngbhkaaGreatDoor
open Go.RowKit
set_option linter.unusedVariables false
set_option linter.unusedSimpArgs false

end Go.Proofs.YtljabmkmngbhkaaGreatDoor
namespace Go.Proofs.YtljabmkmngbhkaaGreatDoor
open Go.RowKit
set_option linter.unusedVariables false
set_option linter.unusedSimpArgs false

end Go.Proofs.YtljabmkmngbhkaaGreatDoor
namespace Go.Proofs.YtljabmkmngbhkaaGreatDoor
open Go.RowKit
set_option linter.unusedVariables false
set_option linter.unusedSimpArgs false

theorem cache_cost (s : ByteArray) (hs : s.size ≤ 9223372036854775000) (w : World) :
    Calls Tryz.prog 166 #[.string s] w fun e w' => e = .returned (.int .i64 (64 + (s.size : Int))) ∧ w = w' := by
  go_enter Tryz.func166, Tryz.ntmps166
  go_wp2
  go_ret
  exact ⟨rfl, rfl⟩

theorem cache_works (c g : Nat) (w : World) (h : w.cell? ⟨c, 0, none⟩ = some (.pointer (some ⟨g, 0, none⟩))) :
    Calls Tryz.prog 130 #[.pointer (some ⟨c, 0, none⟩)] w fun e w' => e = .returned (.bool true) ∧ w = w' := by
  go_enter Tryz.func130, Tryz.ntmps130
  go_wp2
  go_ret
  exact ⟨rfl, rfl⟩

theorem cache_out_raw (xb pb po qb qo : Nat) (vp vq : Value) (w : World) (h4 : w.cell? ⟨xb, 4, none⟩ = some (.pointer (some ⟨pb, po, none⟩))) (h5 : w.cell? ⟨xb, 5, none⟩ = some (.pointer (some ⟨qb, qo, none⟩)))
    (hp : w.cell? ⟨pb, po + 5, none⟩ = some vp) (hq : w.cell? ⟨qb, qo + 4, none⟩ = some vq) (fp : w.frozen? ⟨pb, po + 5, none⟩ = false) (fq : w.frozen? ⟨qb, qo + 4, none⟩ = false) (hne : ¬ (pb = qb ∧ po + 5 = qo + 4)) :
    Calls Tryz.prog 213 #[.pointer (some ⟨xb, 0, none⟩)] w fun e w' => e = .returned (.tuple #[]) ∧
      ∃ n, ((w.setCell ⟨pb, po + 5, none⟩ (.pointer (some ⟨qb, qo, none⟩))).setCell ⟨qb, qo + 4, none⟩ (.pointer (some ⟨pb, po, none⟩))).drewN n = w' := by
  have hq2 : (w.setCell ⟨pb, po + 5, none⟩ (.pointer (some ⟨qb, qo, none⟩))).cell? ⟨qb, qo + 4, none⟩ = some vq := by
    rw [World.cell?_setCell_other]
    · exact hq
    · simp; omega
  clear hne
  go_enter Tryz.func213, Tryz.ntmps213
  go_wp2
  go_region
  all_goals (first | go_end0 | refine bodyPost_ret (results_none rfl _ _ _) rfl ?_)
  all_goals exact ⟨rfl, 1, rfl⟩

end Go.Proofs.YtljabmkmngbhkaaGreatDoor
namespace Go.Proofs.YtljabmkmngbhkaaGreatDoor
open Go.RowKit
set_option linter.unusedVariables false

/-- A block that is kept: where it lies, its key, its data, its pins. -/
structure Node where
  id : Nat
  file : Int
  blk : Int
  data : ByteArray
  pins : Int

def nad (x : Node) : Addr := ⟨x.id, 0, none⟩
def ptr (a : Addr) : Value := .pointer (some a)
def nodeCells (x : Node) (p q : Addr) : Array Value := #[.int .i64 x.file, .int .i64 x.blk, .string x.data, .int .i64 x.pins, ptr p, ptr q]
def headAd : List Node → Addr → Addr
  | [], q => q
  | x :: _, _ => nad x
def lastAd : List Node → Addr → Addr
  | [], p => p
  | x :: xs, _ => lastAd xs (nad x)
/-- The nodes L lie in memory, p ahead of them, q behind. -/
def Seg (w : World) : Addr → List Node → Addr → Prop
  | _, [], _ => True
  | p, x :: xs, q => Blk w x.id 141 (nodeCells x p (headAd xs q)) ∧ Seg w (nad x) xs q

theorem lastAd_snoc (L : List Node) (x : Node) (p : Addr) : lastAd (L ++ [x]) p = nad x := by
  induction L generalizing p with
  | nil => rfl
  | cons y ys ih => exact ih _
theorem lastAd_app (L M : List Node) (p : Addr) : lastAd (L ++ M) p = lastAd M (lastAd L p) := by
  induction L generalizing p with
  | nil => rfl
  | cons y ys ih => exact ih _
theorem headAd_app (L M : List Node) (q : Addr) : headAd (L ++ M) q = headAd L (headAd M q) := by
  cases L <;> rfl

section
variable {w w' : World} {L M : List Node} {p q : Addr} {x : Node}
theorem Seg.app : ∀ {L : List Node} {p : Addr}, Seg w p (L ++ M) q ↔ Seg w p L (headAd M q) ∧ Seg w (lastAd L p) M q
  | [], p => by simp [Seg, lastAd]
  | y :: ys, p => by
    simp only [List.cons_append, Seg, lastAd, headAd_app, Seg.app (L := ys), and_assoc]
theorem Seg.chg {S : Nat → Prop} (hc : Chg S w w') : ∀ {L : List Node} {p : Addr}, (∀ x ∈ L, ¬ S x.id) → Seg w p L q → Seg w' p L q
  | [], _, _, _ => trivial
  | y :: ys, _, hS, h => ⟨h.1.chg hc (hS y (by simp)), Seg.chg hc (fun x hx => hS x (by simp [hx])) h.2⟩
theorem Seg.far {a : Addr} (u : Value) : ∀ {L : List Node} {p : Addr}, (∀ x ∈ L, x.id ≠ a.block) → Seg w p L q → Seg (w.setCell a u) p L q
  | [], _, _, _ => trivial
  | y :: ys, _, hS, h => ⟨h.1.far (hS y (by simp)) u, Seg.far u (fun x hx => hS x (by simp [hx])) h.2⟩
theorem Seg.at_ (h : Seg w p (L ++ x :: M) q) : Blk w x.id 141 (nodeCells x (lastAd L p) (headAd M q)) := (Seg.app.1 h).2.1
theorem Seg.lt (h : Seg w p L q) {y : Node} (hy : y ∈ L) : y.id < w.heap.size := by
  obtain ⟨A, B, rfl⟩ := List.append_of_mem hy
  exact h.at_.lt
theorem Seg.blk (h : Seg w p L q) {y : Node} (hy : y ∈ L) : ∃ a b, Blk w y.id 141 (nodeCells y a b) := by
  obtain ⟨A, B, rfl⟩ := List.append_of_mem hy
  exact ⟨_, _, h.at_⟩

/-- The last node's next is another address. -/
theorem Seg.setNext {y : Node} (h : Seg w p (L ++ [y]) q) (hd : ∀ x ∈ L, x.id ≠ y.id) (q' : Addr) : Seg (w.setCell ⟨y.id, 5, none⟩ (ptr q')) p (L ++ [y]) q' := by
  obtain ⟨h1, h2, _⟩ := Seg.app.1 h
  refine Seg.app.2 ⟨Seg.far _ hd h1, ?_, trivial⟩
  have := h2.set_ 5 (ptr q')
  simpa [nodeCells, headAd] using this
/-- The first node's elder is another address. -/
theorem Seg.setElder {y : Node} (h : Seg w p (y :: M) q) (hd : ∀ x ∈ M, x.id ≠ y.id) (p' : Addr) : Seg (w.setCell ⟨y.id, 4, none⟩ (ptr p')) p' (y :: M) q := by
  obtain ⟨h1, h2⟩ := h
  refine ⟨?_, Seg.far _ hd h2⟩
  have := h1.set_ 4 (ptr p')
  simpa [nodeCells] using this
end

/-- No two nodes lie at one place. -/
def CApart (L : List Node) : Prop := L.Pairwise fun a b => a.id ≠ b.id
theorem CApart.mid {L M : List Node} {x : Node} (h : CApart (L ++ x :: M)) : (∀ y ∈ L, y.id ≠ x.id) ∧ (∀ y ∈ M, y.id ≠ x.id) ∧ CApart L ∧ CApart M ∧ CApart (L ++ M) ∧ ∀ y ∈ L, ∀ z ∈ M, y.id ≠ z.id := by
  unfold CApart at *
  rw [List.pairwise_append] at h ⊢
  obtain ⟨h1, h2, h3⟩ := h
  rw [List.pairwise_cons] at h2
  refine ⟨fun y hy => h3 y hy x (by simp), fun y hy => (h2.1 y hy).symm, h1, h2.2, ⟨h1, h2.2, fun y hy z hz => h3 y hy z (by simp [hz])⟩, fun y hy z hz => h3 y hy z (by simp [hz])⟩
theorem CApart.snoc {L : List Node} {x : Node} (h : CApart L) (hx : ∀ y ∈ L, y.id ≠ x.id) : CApart (L ++ [x]) := by
  unfold CApart at *
  rw [List.pairwise_append]
  exact ⟨h, by simp, fun a ha b hb => by simp at hb; subst hb; exact hx a ha⟩

def ring (c : Nat) : Addr := ⟨c, 1, none⟩
def cacheCells (g m : Nat) (e n : Addr) : Array Value := #[ptr ⟨g, 0, none⟩, .int .i64 0, .int .i64 0, .string ⟨#[]⟩, .int .i64 0, ptr e, ptr n, .map (some m)]
/-- The cache at c, its budget at g, its map at m, and its ring. -/
structure RingAt (w : World) (c g m : Nat) (L : List Node) : Prop where
  blk : Blk w c 143 (cacheCells g m (lastAd L (ring c)) (headAd L (ring c)))
  seg : Seg w (ring c) L (ring c)
  apart : CApart L

section
variable {w w' : World} {c g m : Nat} {L M : List Node} {x : Node}
theorem RingAt.ne_ (h : RingAt w c g m L) {y : Node} (hy : y ∈ L) : y.id ≠ c := by
  obtain ⟨a, b, hb⟩ := h.seg.blk hy
  exact hb.ne_ h.blk (by decide)
theorem RingAt.chg {S : Nat → Prop} (h : RingAt w c g m L) (hc : Chg S w w') (hS : ¬ S c) (hL : ∀ x ∈ L, ¬ S x.id) : RingAt w' c g m L :=
  ⟨h.blk.chg hc hS, h.seg.chg hc hL, h.apart⟩
theorem RingAt.drewN (h : RingAt w c g m L) (n : Nat) : RingAt (w.drewN n) c g m L := h.chg (S := fun _ => False) ((Chg.refl _ _).drewN n) (by simp) (by simp)

/-- The place of the cell that names what stands behind an address; of the one that names what stands ahead. -/
def nextOf (a : Addr) : Addr := ⟨a.block, a.off + 5, none⟩
def elderOf (a : Addr) : Addr := ⟨a.block, a.off + 4, none⟩

/-- A node is taken out of the ring; its own cells stay as they were. -/
theorem RingAt.out (h : RingAt w c g m (L ++ x :: M)) :
    let p := lastAd L (ring c)
    let q := headAd M (ring c)
    let w' := (w.setCell (nextOf p) (ptr q)).setCell (elderOf q) (ptr p)
    RingAt w' c g m (L ++ M) ∧ Blk w' x.id 141 (nodeCells x p q) := by
  intro p q w'
  show RingAt ((w.setCell (nextOf p) (ptr q)).setCell (elderOf q) (ptr p)) c g m (L ++ M) ∧ Blk ((w.setCell (nextOf p) (ptr q)).setCell (elderOf q) (ptr p)) x.id _ _
  clear w'
  have hpd : p = lastAd L (ring c) := rfl
  have hqd : q = headAd M (ring c) := rfl
  clear_value p q
  obtain ⟨hLx, hMx, hL, hM, hLM, hd⟩ := h.apart.mid
  have hxc := h.ne_ (y := x) (by simp)
  have hLc : ∀ y ∈ L, y.id ≠ c := fun y hy => h.ne_ (by simp [hy])
  have hMc : ∀ y ∈ M, y.id ≠ c := fun y hy => h.ne_ (by simp [hy])
  obtain ⟨s1, s2, s3⟩ := Seg.app.1 h.seg
  have hb := h.blk
  rw [lastAd_app, headAd_app] at hb
  simp only [lastAd, headAd] at hb
  have s2' : Blk w x.id 141 (nodeCells x p q) := by rw [hpd, hqd]; exact s2
  -- the first store: the next of p
  have step1 : Blk (w.setCell (nextOf p) (ptr q)) c 143 (cacheCells g m (lastAd M (nad x)) (headAd L q)) ∧ Seg (w.setCell (nextOf p) (ptr q)) (ring c) L q ∧ Seg (w.setCell (nextOf p) (ptr q)) (nad x) M (ring c) ∧ Blk (w.setCell (nextOf p) (ptr q)) x.id 141 (nodeCells x p q) := by
    rcases List.eq_nil_or_concat L with rfl | ⟨L', y, rfl⟩
    · refine ⟨?_, trivial, Seg.far (a := nextOf p) _ (fun z hz => by rw [hpd]; exact hMc z hz) s3, Blk.far s2' (p := nextOf p) (by rw [hpd]; exact hxc) _⟩
      have := hb.set_ 6 (ptr q)
      simpa [cacheCells, headAd, lastAd, nextOf, ring, hpd] using this
    · simp only [List.concat_eq_append] at *
      have hp : p = nad y := by rw [hpd, lastAd_snoc]
      have hL' : ∀ z ∈ L', z.id ≠ y.id := by
        unfold CApart at hL
        rw [List.pairwise_append] at hL
        exact fun z hz => hL.2.2 z hz y (by simp)
      rw [hp]
      refine ⟨?_, Seg.setNext s1 hL' q, Seg.far _ (fun z hz => (hd y (by simp) z hz).symm) s3, ?_⟩
      · have h1 : headAd (L' ++ [y]) q = headAd (L' ++ [y]) (nad x) := by cases L' <;> rfl
        rw [h1]
        exact hb.far (by simpa [nextOf, nad] using (hLc y (by simp)).symm) _
      · rw [← hp]
        refine Blk.far s2' ?_ _
        rw [hp]
        exact (hLx y (by simp)).symm
  obtain ⟨b1, g1, g3, k1⟩ := step1
  generalize w.setCell (nextOf p) (ptr q) = w1 at *
  cases M with
  | nil =>
    have hq : q = ring c := hqd
    rw [hq] at g1 k1 b1 ⊢
    refine ⟨⟨?_, ?_, by simpa using hL⟩, k1.far hxc _⟩
    · have := b1.set_ 5 (ptr p)
      simpa [cacheCells, lastAd, elderOf, ring, hpd] using this
    · rw [List.append_nil]
      exact Seg.far _ (fun z hz => hLc z hz) g1
  | cons z M' =>
    have hq : q = nad z := hqd
    rw [hq] at g1 k1 b1 ⊢
    have hM' : ∀ u ∈ M', u.id ≠ z.id := by
      unfold CApart at hM
      rw [List.pairwise_cons] at hM
      exact fun u hu => (hM.1 u hu).symm
    refine ⟨⟨?_, ?_, hLM⟩, k1.far (by simpa [elderOf, nad] using (hMx z (by simp)).symm) _⟩
    · rw [lastAd_app, headAd_app]
      exact b1.far (by simpa [elderOf, nad] using (hMc z (by simp)).symm) _
    · refine Seg.app.2 ⟨Seg.far _ (fun u hu => hd u hu z (by simp)) g1, by rw [← hpd]; exact Seg.setElder g3 hM' p⟩

end
end Go.Proofs.YtljabmkmngbhkaaGreatDoor
namespace Go.Proofs.YtljabmkmngbhkaaGreatDoor
open Go.RowKit
set_option linter.unusedVariables false
set_option linter.unusedSimpArgs false

/-- The blocks of a ring. -/
def Foot (c : Nat) (L : List Node) (k : Nat) : Prop := k = c ∨ ∃ y ∈ L, y.id = k

theorem lastAd_form (c : Nat) (L : List Node) : ∃ b o, lastAd L (ring c) = ⟨b, o, none⟩ ∧ (b = c ∧ o = 1 ∨ ∃ y ∈ L, b = y.id ∧ o = 0) := by
  rcases List.eq_nil_or_concat L with rfl | ⟨L', y, rfl⟩
  · exact ⟨c, 1, rfl, .inl ⟨rfl, rfl⟩⟩
  · exact ⟨y.id, 0, by rw [List.concat_eq_append, lastAd_snoc]; rfl, .inr ⟨y, by simp, rfl, rfl⟩⟩
theorem headAd_form (c : Nat) (L : List Node) : ∃ b o, headAd L (ring c) = ⟨b, o, none⟩ ∧ (b = c ∧ o = 1 ∨ ∃ y ∈ L, b = y.id ∧ o = 0) := by
  cases L with
  | nil => exact ⟨c, 1, rfl, .inl ⟨rfl, rfl⟩⟩
  | cons y ys => exact ⟨y.id, 0, rfl, .inr ⟨y, by simp, rfl, rfl⟩⟩

section
variable {w w' : World} {c g m : Nat} {L M : List Node} {x : Node}
theorem RingAt.next_cell (h : RingAt w c g m L) {b o : Nat} (hf : b = c ∧ o = 1 ∨ ∃ y ∈ L, b = y.id ∧ o = 0) : (∃ v, w.cell? ⟨b, o + 5, none⟩ = some v) ∧ w.frozen? ⟨b, o + 5, none⟩ = false := by
  rcases hf with ⟨rfl, rfl⟩ | ⟨y, hy, rfl, rfl⟩
  · exact ⟨⟨_, h.blk.cell 6⟩, h.blk.frozen _⟩
  · obtain ⟨_, _, hb⟩ := h.seg.blk hy
    exact ⟨⟨_, hb.cell 5⟩, hb.frozen _⟩
theorem RingAt.elder_cell (h : RingAt w c g m L) {b o : Nat} (hf : b = c ∧ o = 1 ∨ ∃ y ∈ L, b = y.id ∧ o = 0) : (∃ v, w.cell? ⟨b, o + 4, none⟩ = some v) ∧ w.frozen? ⟨b, o + 4, none⟩ = false := by
  rcases hf with ⟨rfl, rfl⟩ | ⟨y, hy, rfl, rfl⟩
  · exact ⟨⟨_, h.blk.cell 5⟩, h.blk.frozen _⟩
  · obtain ⟨_, _, hb⟩ := h.seg.blk hy
    exact ⟨⟨_, hb.cell 4⟩, hb.frozen _⟩
end

theorem cache_out (c g m : Nat) (L M : List Node) (x : Node) (w : World) (h : RingAt w c g m (L ++ x :: M)) :
    Calls Tryz.prog 213 #[.pointer (some ⟨x.id, 0, none⟩)] w fun e w' => e = .returned (.tuple #[]) ∧ RingAt w' c g m (L ++ M) ∧ Blk w' x.id 141 (nodeCells x (lastAd L (ring c)) (headAd M (ring c))) ∧ Chg (Foot c (L ++ x :: M)) w w' := by
  have hout := h.out
  have hx := h.seg.at_
  obtain ⟨pb, po, hp, fp⟩ := lastAd_form c L
  obtain ⟨qb, qo, hq, fq⟩ := headAd_form c M
  have fp' : pb = c ∧ po = 1 ∨ ∃ y ∈ L ++ x :: M, pb = y.id ∧ po = 0 := fp.imp id fun ⟨y, hy, e⟩ => ⟨y, by simp [hy], e⟩
  have fq' : qb = c ∧ qo = 1 ∨ ∃ y ∈ L ++ x :: M, qb = y.id ∧ qo = 0 := fq.imp id fun ⟨y, hy, e⟩ => ⟨y, by simp [hy], e⟩
  obtain ⟨⟨vp, cp⟩, zp⟩ := h.next_cell fp'
  obtain ⟨⟨vq, cq⟩, zq⟩ := h.elder_cell fq'
  simp only [hp, hq, nextOf, elderOf, ptr] at hout hx
  have h4 := hx.cell 4
  have h5 := hx.cell 5
  simp [nodeCells, ptr] at h4 h5
  refine (cache_out_raw x.id pb po qb qo vp vq w h4 h5 cp cq zp zq ?_).mono ?_
  · rintro ⟨rfl, he⟩
    have : po = 0 ∨ po = 1 := by rcases fp with ⟨_, h⟩ | ⟨_, _, _, h⟩ <;> omega
    have : qo = 0 ∨ qo = 1 := by rcases fq with ⟨_, h⟩ | ⟨_, _, _, h⟩ <;> omega
    rcases fp' with ⟨rfl, hpo⟩ | ⟨y, hy, rfl, hpo⟩
    · omega
    · rcases fq' with ⟨hc, hqo⟩ | ⟨z, hz, hc, hqo⟩
      · exact h.ne_ hy hc
      · omega
  · rintro e w' ⟨rfl, n, rfl⟩
    refine ⟨rfl, hout.1.drewN n, by rw [hp, hq]; exact hout.2.drewN n, ?_⟩
    refine Chg.drewN (Chg.setCell (Chg.setCell (Chg.refl _ _) (fun _ => ?_) _) (fun _ => ?_) _) _
    · rcases fp' with ⟨rfl, _⟩ | ⟨y, hy, rfl, _⟩
      · exact .inl rfl
      · exact .inr ⟨y, hy, rfl⟩
    · rcases fq' with ⟨rfl, _⟩ | ⟨y, hy, rfl, _⟩
      · exact .inl rfl
      · exact .inr ⟨y, hy, rfl⟩

/-! ### The cache, whole -/
def keyV (f b : Int) : Value := .agg #[.int .i64 f, .int .i64 b]
structure NodeOk (x : Node) : Prop where
  file : In64 x.file
  blk : In64 x.blk
  pins : 0 ≤ x.pins ∧ x.pins ≤ 1000000
  data : x.data.size ≤ 140737488355328
def costOf (x : Node) : Int := 64 + (x.data.size : Int)
def total : List Node → Int
  | [] => 0
  | x :: xs => costOf x + total xs
theorem total_app (L M : List Node) : total (L ++ M) = total L + total M := by
  induction L with
  | nil => simp [total]
  | cons x xs ih => simp [total, ih]; omega
theorem costOf_pos (x : Node) : 64 ≤ costOf x := by unfold costOf; omega
theorem total_nonneg (L : List Node) : 0 ≤ total L := by
  induction L with
  | nil => simp [total]
  | cons x xs ih => have := costOf_pos x; simp [total]; omega
def Tells (f : Value → Option Value) (L : List Node) : Prop := ∀ k v, f k = some v ↔ ∃ x ∈ L, k = keyV x.file x.blk ∧ v = .pointer (some (nad x))
def Distinct (L : List Node) : Prop := L.Pairwise fun a b => ¬ (a.file = b.file ∧ a.blk = b.blk)

structure CacheAt (w : World) (c g m : Nat) (L : List Node) (B : Bud) : Prop where
  ring : RingAt w c g m L
  map : ∃ n f, MapAt Tryz.prog 127 w m n f ∧ Tells f L
  bud : BudAt w g B
  keys : Distinct L
  good : ∀ x ∈ L, NodeOk x
  tot : B.b = total L
/-- All blocks of a cache. -/
def FootC (c g m : Nat) (L : List Node) (k : Nat) : Prop := k = c ∨ k = g ∨ k = m ∨ ∃ y ∈ L, y.id = k

theorem key_law : Go.Maps.Keyed Tryz.prog 127 := Go.Maps.Keyed.of_law (deep_law_laid (P := Tryz.prog) (by kernel_rfl) (m := 100) (by decide) (of_decide_eq_true (by kernel_rfl)) (by kernel_rfl) (by kernel_rfl))
theorem key_of (f b : Int) (hf : In64 f) (hb : In64 b) : ∃ l, keyOf Tryz.prog 127 (keyV f b) = some l := by
  have h1 : decide (1 ≤ Tryz.prog.types.size) = true := by kernel_rfl
  obtain ⟨n, hn⟩ := Nat.exists_eq_add_of_le (of_decide_eq_true h1)
  have e1 : Tryz.prog.keyType 127 = true := by kernel_rfl
  have c1 : Tryz.prog.cellsOf 127 = 2 := by kernel_rfl
  have c2 : Tryz.prog.cellsOf 2 = 1 := by kernel_rfl
  have c3 : Tryz.prog.cellsOf 3 = 1 := by kernel_rfl
  have w1 : (Lit.int .i64 f).wf = true := by
    unfold In64 at hf
    simp [Lit.wf, IntKind.min, IntKind.max, IntKind.signed, IntKind.bits]; omega
  have w2 : (Lit.int .i64 b).wf = true := by
    unfold In64 at hb
    simp [Lit.wf, IntKind.min, IntKind.max, IntKind.signed, IntKind.bits]; omega
  unfold keyOf keyV
  rw [Tryz.underlying127]
  simp only [e1, Value.formed, c1]
  rw [show Tryz.prog.types.size + 1 = (n + 1) + 1 from by omega]
  simp [Program.keyLits, Value.cells, Tryz.underlying127, Tryz.underlying2, Tryz.underlying3, c1, c2, c3, w1, w2]
end Go.Proofs.YtljabmkmngbhkaaGreatDoor
namespace Go.Proofs.YtljabmkmngbhkaaGreatDoor
open Go.RowKit
set_option linter.unusedVariables false
set_option linter.unusedSimpArgs false

theorem CacheAt.chg {S : Nat → Prop} {w w' : World} {c g m : Nat} {L : List Node} {B : Bud} (h : CacheAt w c g m L B) (hc : Chg S w w') (hS : ∀ k, FootC c g m L k → ¬ S k) : CacheAt w' c g m L B := by
  obtain ⟨n, f, hm, ht⟩ := h.map
  exact ⟨h.ring.chg hc (hS c (.inl rfl)) (fun x hx => hS x.id (.inr (.inr (.inr ⟨x, hx, rfl⟩)))), ⟨n, f, hm.chg hc (hS m (.inr (.inr (.inl rfl)))), ht⟩, h.bud.chg hc (hS g (.inr (.inl rfl))), h.keys, h.good, h.tot⟩
theorem CacheAt.same {w w' : World} {c g m : Nat} {L : List Node} {B : Bud} (h : CacheAt w c g m L B) (hc : Chg (fun _ => False) w w') : CacheAt w' c g m L B := h.chg hc (by simp)
theorem CacheAt.foot_lt {w : World} {c g m : Nat} {L : List Node} {B : Bud} (h : CacheAt w c g m L B) {k : Nat} (hk : FootC c g m L k) : k < w.heap.size := by
  obtain ⟨n, f, hm, ht⟩ := h.map
  rcases hk with rfl | rfl | rfl | ⟨y, hy, rfl⟩
  · exact h.ring.blk.lt
  · exact h.bud.blk.lt
  · exact hm.lt
  · exact h.ring.seg.lt hy

theorem keyV_inj {a b c d : Int} (h : keyV a b = keyV c d) : a = c ∧ b = d := by
  unfold keyV at h
  simp at h
  exact h
/-- The budget and the map are not in the ring. -/
theorem CacheAt.not_foot {w : World} {c g m : Nat} {L : List Node} {B : Bud} (h : CacheAt w c g m L B) {L' : List Node} (hL : ∀ y ∈ L', y ∈ L) : ¬ Foot c L' g ∧ ¬ Foot c L' m := by
  obtain ⟨n, f, hm, ht⟩ := h.map
  refine ⟨?_, ?_⟩
  · rintro (e | ⟨y, hy, e⟩)
    · exact h.bud.blk.ne_ h.ring.blk (by decide) e
    · obtain ⟨_, _, hb⟩ := h.ring.seg.blk (hL y hy)
      exact hb.ne_ h.bud.blk (by decide) e
  · rintro (e | ⟨y, hy, e⟩)
    · exact h.ring.blk.ne_map hm e.symm
    · obtain ⟨_, _, hb⟩ := h.ring.seg.blk (hL y hy)
      exact hb.ne_map hm e
theorem foot_c {c g m : Nat} {L : List Node} {k : Nat} (h : Foot c L k) : FootC c g m L k := by
  rcases h with h | h
  · exact .inl h
  · exact .inr (.inr (.inr h))

end Go.Proofs.YtljabmkmngbhkaaGreatDoor
namespace Go.Proofs.YtljabmkmngbhkaaGreatDoor
open Go.RowKit
set_option linter.unusedVariables false
set_option linter.unusedSimpArgs false

end Go.Proofs.YtljabmkmngbhkaaGreatDoor
namespace Go.Proofs.YtljabmkmngbhkaaGreatDoor
open Go.RowKit
set_option linter.unusedVariables false
set_option linter.unusedSimpArgs false

theorem Bud.release_b {B : Bud} {k : Int} (h0 : 0 ≤ k) (h1 : k ≤ B.b) : B.release 1 k = (0, B.put 1 (B.b - k)) := by
  unfold Bud.release
  rw [if_neg (by omega)]
  have : B.of 1 = B.b := rfl
  rw [this, if_neg (by omega)]
theorem Bud.put_b (B : Bud) (y : Int) : (B.put 1 y).b = y := by simp [Bud.put]

theorem tells_del {f : Value → Option Value} {A M : List Node} {x : Node} (h : Tells f (A ++ x :: M)) (hd : Distinct (A ++ x :: M)) : Tells (upd f (keyV x.file x.blk) none) (A ++ M) := by
  intro k v
  have hd' : ∀ y ∈ A ++ M, ¬ (y.file = x.file ∧ y.blk = x.blk) := by
    unfold Distinct at hd
    rw [List.pairwise_append, List.pairwise_cons] at hd
    intro y hy
    rcases List.mem_append.1 hy with hy | hy
    · exact hd.2.2 y hy x (by simp)
    · exact fun e => hd.2.1.1 y hy ⟨e.1.symm, e.2.symm⟩
  by_cases hk : k = keyV x.file x.blk
  · subst hk
    rw [upd_same]
    constructor
    · intro h; cases h
    · rintro ⟨y, hy, e, _⟩
      obtain ⟨e1, e2⟩ := keyV_inj e
      exact absurd ⟨e1.symm, e2.symm⟩ (hd' y hy)
  · rw [upd_other _ _ hk, h k v]
    constructor
    · rintro ⟨y, hy, e1, e2⟩
      refine ⟨y, ?_, e1, e2⟩
      rcases List.mem_append.1 hy with hy | hy
      · simp [hy]
      · rcases List.mem_cons.1 hy with rfl | hy
        · exact absurd e1 hk
        · simp [hy]
    · rintro ⟨y, hy, e1, e2⟩
      refine ⟨y, ?_, e1, e2⟩
      rcases List.mem_append.1 hy with hy | hy <;> simp [hy]
theorem Distinct.del {A M : List Node} {x : Node} (hd : Distinct (A ++ x :: M)) : Distinct (A ++ M) := by
  unfold Distinct at *
  exact hd.sublist (List.Sublist.append_left (List.sublist_cons_self _ _) _)

set_option maxHeartbeats 1000000 in
theorem cache_drop1 (c g m : Nat) (A M : List Node) (x : Node) (B : Bud) (w : World) (h : CacheAt w c g m (A ++ x :: M) B) :
    Calls Tryz.prog 133 #[.pointer (some ⟨c, 0, none⟩), .pointer (some ⟨x.id, 0, none⟩)] w fun e w' => e = .returned (.tuple #[]) ∧ CacheAt w' c g m (A ++ M) (B.release 1 (costOf x)).2 ∧ Chg (FootC c g m (A ++ x :: M)) w w' := by
  obtain ⟨n, f, hm, ht⟩ := h.map
  obtain ⟨l, hl⟩ := key_of x.file x.blk (h.good x (by simp)).file (h.good x (by simp)).blk
  obtain ⟨ng, nm⟩ := h.not_foot (fun y hy => hy)
  have hdata := (h.good x (by simp)).data
  have hgm : g ≠ m := h.bud.blk.ne_map hm
  have H := Lib.hid h
  have HM := Lib.hid hm
  have HT := Lib.hid ht
  have HNG := Lib.hid ng
  have HNM := Lib.hid nm
  have HGM := Lib.hid hgm
  clear h hm ht ng nm hgm
  go_enter Tryz.func133, Tryz.ntmps133
  go_wp2_with fail
  refine (cache_out c g m A M x w H.out.ring).mono ?_
  rintro e w3 ⟨rfl, hr3, hx3, hc3⟩
  have hm3 := HM.out.chg hc3 HNM.out
  obtain ⟨w4, hdel, hm4, hc4, hs4⟩ := (hm3.drew).drop (ty := 0) key_law Tryz.underlying138 hl
  have hdel' : ∀ ty, (Builtin.delete_ #[138, 127] ty #[.map (some m), .agg #[.int .i64 x.file, .int .i64 x.blk]]).run Tryz.prog w3.drew = .ok (.tuple #[]) w4 := fun ty => hdel
  have c7 := hr3.blk.cell 7
  have x0 := hx3.cell 0
  have x1 := hx3.cell 1
  simp [nodeCells, cacheCells, ptr] at c7 x0 x1
  have hr4 : RingAt w4 c g m (A ++ M) := (hr3.chg (w' := w3.drew) (S := fun _ => False) cgS (by simp) (by simp)).chg hc4 (hr3.blk.ne_map hm3) (fun y hy => by
    obtain ⟨_, _, hb⟩ := hr3.seg.blk hy
    exact hb.ne_map hm3)
  have hx4 : Blk w4 x.id 141 (nodeCells x (lastAd A (ring c)) (headAd M (ring c))) := Blk.chg (w := w3.drew) hx3 hc4 (hx3.ne_map hm3)
  have HR3 := Lib.hid hr3
  have HM3 := Lib.hid hm3
  have HX3 := Lib.hid hx3
  have HC4 := Lib.hid hc4
  clear hdel hs4 hl hr3 hm3 hx3 hc4
  go_wp2_with fail
  go_region_held3 (fun w' => w'.cell? ⟨c, 7, none⟩ = some (.map (some m)) ∧ w'.cell? ⟨x.id, 0, none⟩ = some (.int .i64 x.file) ∧ w'.cell? ⟨x.id, 1, none⟩ = some (.int .i64 x.blk))
    (first | (go_keep; done) | (go_split_ands; refine ⟨hr4.blk.cell 7, hx4.cell 0, hx4.cell 1⟩)) (fail)
  have hb4 : BudAt w4 g B := ((H.out.bud.chg hc3 HNG.out).chg (w' := w3.drew) (S := fun _ => False) cgS (by simp)).chg HC4.out (fun e => HGM.out e)
  have c0 := hr4.blk.cell 0
  have x2 := hx4.cell 2
  simp [nodeCells, cacheCells, ptr] at c0 x2
  have hcost : costOf x = 64 + (x.data.size : Int) := rfl
  have hrel := fun W => bud_release g B 1 (costOf x) W
  rw [hcost] at hrel
  have HREL := Lib.hid hrel
  have HB4 := Lib.hid hb4
  have hds : x.data.size ≤ 9223372036854775000 := by omega
  have hcl : c < w4.heap.size := hr4.blk.lt
  have hxl : x.id < w4.heap.size := hx4.lt
  have hcg : ¬ c = g := fun e => HB4.out.blk.ne_ hr4.blk (by decide) e.symm
  have hxg : ¬ x.id = g := hx4.ne_ HB4.out.blk (by decide)
  have HR4 := Lib.hid hr4
  clear c7 x0 x1 hdel' hr4 hx4 hrel hb4 hcost
  go_wp2_with fail
  go_region_held3 (fun w' => w'.cell? ⟨c, 0, none⟩ = some (.pointer (some ⟨g, 0, none⟩)) ∧ w'.cell? ⟨x.id, 2, none⟩ = some (.string x.data))
    (first | (go_keep; done) | (go_split_ands; refine ⟨?_, ?_⟩ <;> (first | (rw [hc6.cell hcl hcg]; assumption) | (rw [hc6.cell hxl hxg]; assumption))))
    (first
      | (go_at_call 166; refine (cache_cost _ hds _).mono ?_; rintro e w' ⟨rfl, rfl⟩)
      | (go_at_call 40; refine (HREL.out _ (HB4.out.chg (S := fun _ => False) cgS (by simp))).mono ?_; rintro e w6 ⟨rfl, hb6, hc6⟩))
  go_wp2_with fail
  first | go_end0 | refine bodyPost_ret (results_none rfl _ _ _) rfl ?_
  have hB := Bud.release_b (B := B) (k := 64 + (x.data.size : Int)) (by omega) (by
    rw [H.out.tot, total_app]
    have := total_nonneg A
    have := total_nonneg M
    simp only [total, costOf]
    omega)
  have htot : (B.put 1 (B.b - (64 + (x.data.size : Int)))).b = total (A ++ M) := by
    rw [Bud.put_b, H.out.tot, total_app, total_app]
    simp only [total, costOf]
    omega
  have hc6' : Chg (fun k => k = g) w4 w6 := (Chg.drew (Chg.refl _ w4)).then hc6
  have hrest : RingAt w6 c g m (A ++ M) := HR4.out.chg (S := fun k => k = g) hc6' hcg (fun y hy => by
    obtain ⟨_, _, hb⟩ := HR4.out.seg.blk hy
    exact hb.ne_ HB4.out.blk (by decide))
  rw [hB] at hb6
  refine ⟨rfl, ⟨hrest, ⟨_, _, hm4.chg hc6' (fun (e : m = g) => HGM.out e.symm), tells_del HT.out H.out.keys⟩, ?_, H.out.keys.del, fun y hy => H.out.good y ?_, ?_⟩, ?_⟩
  · show BudAt w6 g (B.release 1 (64 + (x.data.size : Int))).2
    rw [hB]; exact hb6
  · rcases List.mem_append.1 hy with hy | hy <;> simp [hy]
  · show (B.release 1 (64 + (x.data.size : Int))).2.b = _
    rw [hB]; exact htot
  · have c1 : Chg (FootC c g m (A ++ x :: M)) w w3 := hc3.mono fun k _ h => foot_c h
    have c2 : Chg (FootC c g m (A ++ x :: M)) w w4 := (c1.drew).trans HC4.out fun k _ e => .inr (.inr (.inl e))
    exact (c2.drew).trans hc6 fun k _ e => .inr (.inl e)
end Go.Proofs.YtljabmkmngbhkaaGreatDoor
