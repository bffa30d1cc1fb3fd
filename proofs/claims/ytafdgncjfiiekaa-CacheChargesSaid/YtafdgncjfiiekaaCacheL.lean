/-
  The cache: Put by one contract; wakes.
-/
import Derived.Test.YtafdgncjfiiekaaCacheK
namespace Go.Proofs.Ytafdgncjfiiekaa
open Go.RowKit
set_option linter.unusedVariables false
set_option linter.unusedSimpArgs false

def PutPost (w : World) (c g m : Nat) (L : List Node) (B : Bud) (a b : Int) (s : ByteArray) (e : Ending) (w' : World) : Prop :=
  ∃ i, w.heap.size ≤ i ∧ e = .returned (.int .i64 (putM L B a b s i).1) ∧ CacheAt w' c g m (putM L B a b s i).2.1 (putM L B a b s i).2.2 ∧ Chg (FootC c g m L) w w'

theorem cache_put (c g m : Nat) (L : List Node) (B : Bud) (a b : Int) (ha : In64 a) (hb : In64 b) (s : ByteArray) (hs : s.size ≤ 140737488355328) (w : World) (h : CacheAt w c g m L B) :
    Calls Try.prog 26 #[.pointer (some ⟨c, 0, none⟩), .agg #[.int .i64 a, .int .i64 b], .string s] w (PutPost w c g m L B a b s) := by
  cases hk : hasKey L a b with
  | true =>
    obtain ⟨x, hx, rfl, rfl⟩ := hasKey_true hk
    refine (put_there c g m L B x hx s w h).mono ?_
    rintro e w' ⟨rfl, hc⟩
    refine ⟨w.heap.size, Nat.le_refl _, ?_⟩
    unfold putM
    rw [if_pos hk]
    exact ⟨rfl, h.same hc, hc.mono (by simp)⟩
  | false =>
    refine (put_new c g m L B a b ha hb (hasKey_false hk) s hs w h).mono ?_
    rintro e w' (⟨hs, rfl, h', hc⟩ | ⟨hs, rfl, i, hi, h', hc⟩)
    · refine ⟨w.heap.size, Nat.le_refl _, ?_⟩
      unfold putM
      rw [if_neg (by rw [hk]; simp), if_neg (by rw [hs]; simp)]
      exact ⟨rfl, h', hc⟩
    · refine ⟨i, hi, ?_⟩
      unfold putM
      rw [if_neg (by rw [hk]; simp), if_pos hs]
      exact ⟨rfl, h', hc⟩

theorem keys_form {w : World} {base : Nat} {v : Value} {n : Nat} {xs : List Value} (h : w.ownsRow base 48 2 v n xs) :
    ∃ a cap, v = .slice a n cap ∧ n ≤ 9223372036854775807 ∧ (0 < n → ∃ b, a = some ⟨b, 0, none⟩ ∧ base ≤ b ∧ b < w.heap.size ∧ (∃ cs, Blk w b 48 cs) ∧ ∀ i x, xs[i]? = some x → w.cell? ⟨b, i, none⟩ = some x) := by
  have h' := h
  rcases h.2 with ⟨rfl, hn⟩ | ⟨g, cap, cur, rfl, hg, hh, hn, hm, hsz, htake⟩
  · exact ⟨none, 0, by rw [hn], by omega, fun h => by omega⟩
  · unfold maxLen at hm
    refine ⟨_, cap, rfl, by omega, fun _ => ⟨g, rfl, hg, ?_, ⟨_, hh⟩, fun i x hx => ?_⟩⟩
    · exact (show Blk w g _ _ from hh).lt
    have hc := h'.cells (g := g) rfl
    have := hc i x hx
    have e : (⟨g, 0, none⟩ : Addr).add i = ⟨g, i, none⟩ := by unfold Addr.add; split <;> (first | (simp; done) | (simp; omega))
    rw [e] at this
    exact this

theorem wk1 (i : Nat) : putM [] (Bud.start 140) 1 0 ⟨#[49, 50, 51, 52]⟩ i = (0, [⟨i, 1, 0, ⟨#[49, 50, 51, 52]⟩, 0⟩], ⟨140, 68, 68, 0, 68, 0, 0⟩) := rfl
theorem wk2 (i j : Nat) : putM [⟨i, 1, 0, ⟨#[49, 50, 51, 52]⟩, 0⟩] ⟨140, 68, 68, 0, 68, 0, 0⟩ 2 0 ⟨#[49, 50, 51, 52, 53, 54]⟩ j = (0, [⟨i, 1, 0, ⟨#[49, 50, 51, 52]⟩, 0⟩, ⟨j, 2, 0, ⟨#[49, 50, 51, 52, 53, 54]⟩, 0⟩], ⟨140, 138, 138, 0, 138, 0, 0⟩) := rfl
theorem wk3 (i j k : Nat) (h : i ≠ j) : putM [⟨i, 1, 0, ⟨#[49, 50, 51, 52]⟩, 0⟩, ⟨j, 2, 0, ⟨#[49, 50, 51, 52, 53, 54]⟩, 0⟩] ⟨140, 138, 138, 0, 138, 0, 0⟩ 3 0 ⟨#[49]⟩ k = (0, [⟨j, 2, 0, ⟨#[49, 50, 51, 52, 53, 54]⟩, 0⟩, ⟨k, 3, 0, ⟨#[49]⟩, 0⟩], ⟨140, 135, 138, 0, 135, 0, 0⟩) := by
  have e1 : shrink [⟨i, 1, 0, ⟨#[49, 50, 51, 52]⟩, 0⟩, ⟨j, 2, 0, ⟨#[49, 50, 51, 52, 53, 54]⟩, 0⟩] ⟨140, 138, 138, 0, 138, 0, 0⟩ (64 + ((⟨#[49]⟩ : ByteArray).size : Int)) = (true, [⟨j, 2, 0, ⟨#[49, 50, 51, 52, 53, 54]⟩, 0⟩], ⟨140, 70, 138, 0, 70, 0, 0⟩) := by
    have e2 : pick (64 + ((⟨#[49]⟩ : ByteArray).size : Int)) (140 - 138) [⟨i, 1, 0, ⟨#[49, 50, 51, 52]⟩, 0⟩, ⟨j, 2, 0, ⟨#[49, 50, 51, 52, 53, 54]⟩, 0⟩] = ([⟨i, 1, 0, ⟨#[49, 50, 51, 52]⟩, 0⟩], 70) := rfl
    unfold shrink
    simp only [e2]
    rw [if_neg (by decide)]
    have e3 : rem [⟨i, 1, 0, ⟨#[49, 50, 51, 52]⟩, 0⟩, ⟨j, 2, 0, ⟨#[49, 50, 51, 52, 53, 54]⟩, 0⟩] [⟨i, 1, 0, ⟨#[49, 50, 51, 52]⟩, 0⟩] = [⟨j, 2, 0, ⟨#[49, 50, 51, 52, 53, 54]⟩, 0⟩] := by
      simp [rem, List.filter_cons, h]
    rw [e3]
    rfl
  unfold putM
  rw [if_neg (by simp [hasKey]), e1, if_pos rfl]
  rfl

theorem foot_ge {c g m B : Nat} {L : List Node} (hc : B ≤ c) (hg : B ≤ g) (hm : B ≤ m) (hL : ∀ x ∈ L, B ≤ x.id) {k : Nat} (hk : FootC c g m L k) : B ≤ k := by
  rcases hk with rfl | rfl | rfl | ⟨y, hy, rfl⟩
  · exact hc
  · exact hg
  · exact hm
  · exact hL y hy
/-- What is done to blocks of the call's own leaves what was there. -/
theorem Chg.ownC {w w1 w2 : World} (h : Chg (fun _ => False) w w1) {S : Nat → Prop} (h' : Chg S w1 w2) (hS : ∀ k, S k → w.heap.size ≤ k) : Chg (fun _ => False) w w2 :=
  h.trans h' fun k hk e => absurd (hS k e) (by omega)

set_option maxRecDepth 100000 in
set_option maxHeartbeats 2000000 in
theorem cache_wakes (w : World) : Calls Try.prog 29 #[] w fun e w' => e = .returned (.bool true) ∧ Chg (fun _ => False) w w' := by
  have in0 : In64 0 := by unfold In64; omega
  have in1 : In64 1 := by unfold In64; omega
  have in2 : In64 2 := by unfold In64; omega
  have in3 : In64 3 := by unfold In64; omega
  have sz : ∀ l : List UInt8, l.length ≤ 100 → (⟨l.toArray⟩ : ByteArray).size ≤ 140737488355328 := fun l h => by
    show l.toArray.size ≤ _
    rw [List.size_toArray]; omega
  have SZ := Lib.hid sz
  have IN0 := Lib.hid in0; have IN1 := Lib.hid in1; have IN2 := Lib.hid in2; have IN3 := Lib.hid in3
  clear sz in0 in1 in2 in3
  go_enter Try.func29, Try.ntmps29
  go_wp2_with fail
  refine (bud_new 140 w).mono ?_
  rintro e w1 ⟨rfl, hb1, hs1, hc1⟩
  have HS1 := Lib.hid hs1
  clear hs1
  go_wp2_with fail
  refine (cache_new w.heap.size (Bud.start 140) rfl w1 hb1).mono ?_
  rintro e w2 ⟨rfl, h2, hc2, hs2⟩
  rw [HS1.out] at h2 ⊢
  have hcw2 := hc1.then hc2
  have HS2 := Lib.hid hs2
  clear hs2 hc1 hc2 hb1
  go_wp2_with fail
  refine (cache_put _ _ _ _ _ 1 0 IN1.out IN0.out ⟨#[49, 50, 51, 52]⟩ (SZ.out [49, 50, 51, 52] (by decide)) w2 h2).mono ?_
  rintro e w3 ⟨i, hi, rfl, h3, hc3⟩
  rw [wk1] at h3 ⊢
  have hw2 := hcw2.size
  have hcw3 := hcw2.ownC hc3 (fun k hk => foot_ge (by omega) (Nat.le_refl _) (by omega) (by simp) hk)
  have hiw : w.heap.size ≤ i := by omega
  have hiw3 : i < w3.heap.size := h3.foot_lt (.inr (.inr (.inr ⟨⟨i, 1, 0, ⟨#[49, 50, 51, 52]⟩, 0⟩, by simp, rfl⟩)))
  clear hcw2 h2 hc3
  go_wp2_with fail
  refine (cache_put _ _ _ _ _ 2 0 IN2.out IN0.out ⟨#[49, 50, 51, 52, 53, 54]⟩ (SZ.out [49, 50, 51, 52, 53, 54] (by decide)) w3 h3).mono ?_
  rintro e w4 ⟨j, hj, rfl, h4, hc4⟩
  rw [wk2] at h4 ⊢
  have hcw4 := hcw3.ownC hc4 (fun k hk => foot_ge (by omega) (Nat.le_refl _) (by omega) (by simpa using hiw) hk)
  have hij : i ≠ j := by omega
  have hw4 := hc4.size
  have hjw4 : j < w4.heap.size := h4.foot_lt (.inr (.inr (.inr ⟨⟨j, 2, 0, ⟨#[49, 50, 51, 52, 53, 54]⟩, 0⟩, by simp, rfl⟩)))
  clear hcw3 h3 hc4
  go_wp2_with fail
  refine (bud_used _ _ _ h4.bud).mono ?_
  rintro e w' ⟨rfl, rfl⟩
  go_wp2_with fail
  refine (cache_put _ _ _ _ _ 3 0 IN3.out IN0.out ⟨#[49]⟩ (SZ.out [49] (by decide)) w4 h4).mono ?_
  rintro e w5 ⟨k, hk, rfl, h5, hc5⟩
  rw [wk3 i j k hij] at h5 ⊢
  have hcw5 := hcw4.ownC hc5 (fun k hk => foot_ge (by omega) (Nat.le_refl _) (by omega) (by simp; omega) hk)
  clear hcw4 h4 hc5
  go_wp2_with fail
  refine (cache_kept _ _ _ _ _ w5 h5).mono ?_
  rintro e w6 ⟨v, rfl, hown, hc6⟩
  obtain ⟨a, cap, rfl, hn, hread⟩ := keys_form hown
  obtain ⟨bk, rfl, hbk, hbk6, _, hcell⟩ := hread (by simp)
  have z0 := hcell 0 (.int .i64 3) (by simp [keysFlat])
  have h6 := h5.same hc6
  have hcw6 := hcw5.then hc6
  have hft := fun x (hx : FootC (w.heap.size + 1 + 1) w.heap.size (w.heap.size + 1) [(⟨j, 2, 0, ⟨#[49, 50, 51, 52, 53, 54]⟩, 0⟩ : Node), ⟨k, 3, 0, ⟨#[49]⟩, 0⟩] x) => h5.foot_lt hx
  clear hread hown hcell hcw5 h5 hc6
  have hkw : w.heap.size ≤ k := by omega
  have hw56 : w5.heap.size ≤ bk := hbk
  go_wp2_with fail
  have hget := cache_get_hit (w.heap.size + 1 + 1) w.heap.size (w.heap.size + 1) [] [⟨k, 3, 0, ⟨#[49]⟩, 0⟩] ⟨j, 2, 0, ⟨#[49, 50, 51, 52, 53, 54]⟩, 0⟩ _ w6 h6
  refine hget.mono ?_
  rintro e w7 ⟨rfl, h7, hc7⟩
  have z7 : w7.cell? ⟨bk, 0, none⟩ = some (.int .i64 3) := (hc7.cell hbk6 (fun hf => by have := hft _ hf; simp at this; omega)).trans z0
  have hcw7 := hcw6.ownC hc7 (fun k hk => foot_ge (by omega) (Nat.le_refl _) (by omega) (by simp; omega) hk)
  clear hcw6 h6 hc7 h7 z0 hget hft
  go_wp2_with fail
  go_ret
  exact ⟨rfl, hcw7⟩
end Go.Proofs.Ytafdgncjfiiekaa
