/-
  The cache and the document's list side by side: one plain model for both, and each call's contracts at it.
-/
import Derived.Test.YtafdgncjfiiekaaCacheL
import Derived.Test.YtafdgncjfiiekaaRefH
namespace Go.Proofs.Ytafdgncjfiiekaa
open Go.RowKit
set_option linter.unusedVariables false
set_option linter.unusedSimpArgs false

/-! ### The plain model -/
/-- The block of a key, what stands ahead of it, and behind it. -/
def cut (f b : Int) : List Node → Option (List Node × Node × List Node)
  | [] => none
  | x :: xs => if x.file = f ∧ x.blk = b then some ([], x, xs) else (cut f b xs).map fun t => (x :: t.1, t.2.1, t.2.2)
theorem cut_some {f b : Int} : ∀ {L : List Node} {A : List Node} {x : Node} {M : List Node}, cut f b L = some (A, x, M) → L = A ++ x :: M ∧ x.file = f ∧ x.blk = b ∧ ∀ y ∈ A, ¬ (y.file = f ∧ y.blk = b)
  | [], A, x, M, h => by simp [cut] at h
  | y :: ys, A, x, M, h => by
    rw [cut] at h
    by_cases hk : y.file = f ∧ y.blk = b
    · rw [if_pos hk] at h
      simp only [Option.some.injEq, Prod.mk.injEq] at h
      obtain ⟨rfl, rfl, rfl⟩ := h
      exact ⟨rfl, hk.1, hk.2, by simp⟩
    · rw [if_neg hk, Option.map_eq_some_iff] at h
      obtain ⟨⟨A', x', M'⟩, h1, h2⟩ := h
      simp only [Prod.mk.injEq] at h2
      obtain ⟨rfl, rfl, rfl⟩ := h2
      obtain ⟨e, e1, e2, e3⟩ := cut_some h1
      refine ⟨by rw [e]; rfl, e1, e2, ?_⟩
      intro z hz
      rcases List.mem_cons.1 hz with rfl | hz
      · exact hk
      · exact e3 z hz
theorem cut_none {f b : Int} : ∀ {L : List Node}, cut f b L = none → ∀ x ∈ L, ¬ (x.file = f ∧ x.blk = b)
  | [], _ => by simp
  | y :: ys, h => by
    rw [cut] at h
    by_cases hk : y.file = f ∧ y.blk = b
    · rw [if_pos hk] at h; cases h
    · rw [if_neg hk, Option.map_eq_none_iff] at h
      intro z hz
      rcases List.mem_cons.1 hz with rfl | hz
      · exact hk
      · exact cut_none h z hz
def getM (L : List Node) (f b : Int) : ByteArray × Bool × List Node := match cut f b L with | some (A, x, M) => (x.data, true, A ++ M ++ [x]) | none => (⟨#[]⟩, false, L)
def pinM (L : List Node) (f b d : Int) : Bool × List Node := match cut f b L with | some (A, x, M) => if x.pins + d < 0 then (false, L) else (true, A ++ { x with pins := x.pins + d } :: M) | none => (false, L)

theorem pick_lt (n : Int) : ∀ (l : Int) (L : List Node), (pick n l L).2 < n ↔ l + unp L < n
  | l, [] => by simp [pick, unp]
  | l, x :: xs => by
    have hx := costOf_pos x
    have hu := unp_le xs
    rw [pick]
    by_cases hp : x.pins = 0
    · by_cases hl : l < n
      · rw [if_pos ⟨hl, hp⟩]
        simp only [unp, if_pos hp]
        rw [pick_lt n (l + costOf x) xs]
        omega
      · rw [if_neg (fun h => hl h.1)]
        simp only [unp, if_pos hp]
        have := pick_total n l xs
        have := total_nonneg (pick n l xs).1
        omega
    · rw [if_neg (fun h => hp h.2)]
      simp only [unp, if_neg hp]
      rw [pick_lt n l xs]
      omega
theorem pick_done (n : Int) : ∀ (l : Int) (L : List Node), n ≤ l → (pick n l L).1 = []
  | l, [], _ => rfl
  | l, x :: xs, h => by
    rw [pick, if_neg (fun h' => absurd h'.1 (by omega))]
    exact pick_done n l xs h
theorem rem_cons_self {x : Node} {xs E : List Node} (h : Apart (x :: xs)) : rem (x :: xs) (x :: E) = rem xs E := by
  unfold Apart at h
  rw [List.pairwise_cons] at h
  unfold rem
  rw [List.filter_cons, if_neg (by simp)]
  apply List.filter_congr
  intro y hy
  have := h.1 y hy
  simp [this]
theorem rem_cons_other {x : Node} {xs E : List Node} (h : Apart (x :: xs)) (hE : E.Sublist xs) : rem (x :: xs) E = x :: rem xs E := by
  unfold Apart at h
  rw [List.pairwise_cons] at h
  unfold rem
  rw [List.filter_cons, if_pos]
  simp only [Bool.not_eq_true', List.any_eq_false, beq_iff_eq]
  exact fun y hy e => h.1 y (hE.subset hy) e.symm
theorem rsh_pick (n : Int) : ∀ (L : List Node) (B : Bud), Apart L → B.Good → total L ≤ B.b → rsh n B L = (rem L (pick n (B.l - B.u) L).1, bdrop B (pick n (B.l - B.u) L).1)
  | [], B, _, _, _ => rfl
  | x :: xs, B, hA, g, ht => by
    have hx := costOf_pos x
    have hxs := total_nonneg xs
    have hA' := hA
    unfold Apart at hA'
    rw [List.pairwise_cons] at hA'
    simp only [total] at ht
    rw [rsh]
    by_cases hl : n ≤ B.l - B.u
    · rw [if_pos hl, pick_done n _ _ hl, rem_nil]; rfl
    · rw [if_neg hl]
      by_cases hp : x.pins = 0
      · rw [if_pos hp, pick, if_pos ⟨by omega, hp⟩]
        have e : (B.release 1 (costOf x)).2 = B.put 1 (B.b - costOf x) := by rw [Bud.release_b (B := B) (k := costOf x) (by omega) (by omega)]
        have g1 := B.release_good g 1 (costOf x)
        rw [e] at g1 ⊢
        obtain ⟨p1, p2, p3, p4, p5, p6⟩ := B.put1 (B.b - costOf x)
        simp only
        rw [rsh_pick n xs _ hA'.2 g1 (by omega), show (B.put 1 (B.b - costOf x)).l - (B.put 1 (B.b - costOf x)).u = B.l - B.u + costOf x from by omega]
        rw [rem_cons_self hA]
        simp only [bdrop, List.foldl_cons, e]
      · rw [if_neg hp, pick, if_neg (fun h => hp h.2), rsh_pick n xs B hA'.2 g (by omega)]
        rw [rem_cons_other hA (pick_sub _ _ _)]
theorem Apart.inj {L : List Node} (h : Apart L) {x y : Node} (hy : y ∈ L) (hx : x ∈ L) (e : y.id = x.id) : y = x := by
  obtain ⟨A, M, rfl⟩ := List.append_of_mem hx
  obtain ⟨h1, h2, _⟩ := h.mid
  rcases List.mem_append.1 hy with hy | hy
  · exact absurd e (h1 y hy)
  · rcases List.mem_cons.1 hy with hy | hy
    · exact hy
    · exact absurd e (h2 y hy)
theorem rem_ofFile (f : Int) (L : List Node) (hA : Apart L) : rem L (ofFile f L) = notFile f L := by
  unfold rem notFile
  apply List.filter_congr
  intro x hx
  congr 1
  rw [Bool.eq_iff_iff, List.any_eq_true]
  constructor
  · rintro ⟨y, hy, e⟩
    unfold ofFile at hy
    rw [List.mem_filter] at hy
    simp only [beq_iff_eq] at e hy ⊢
    rw [← hA.inj hy.1 hx e]
    exact hy.2
  · intro h
    exact ⟨x, by unfold ofFile; rw [List.mem_filter]; exact ⟨hx, h⟩, by simp⟩

/-! ### Contracts at the plain model -/
section
variable (c g m : Nat) (L : List Node) (B : Bud) (f b : Int) (hf : In64 f) (hb : In64 b) (w : World) (h : CacheAt w c g m L B)
include hf hb h
theorem cache_get_any : Calls Try.prog 27 #[.pointer (some ⟨c, 0, none⟩), .agg #[.int .i64 f, .int .i64 b]] w fun e w' => e = .returned (.tuple #[.string (getM L f b).1, .bool (getM L f b).2.1]) ∧ CacheAt w' c g m (getM L f b).2.2 B ∧ Chg (FootC c g m L) w w' := by
  unfold getM
  cases hc : cut f b L with
  | none =>
    exact (cache_get_miss c g m L B f b hf hb (cut_none hc) w h).mono fun e w' ⟨he, hc⟩ => ⟨he, h.same hc, hc.mono (by simp)⟩
  | some t =>
    obtain ⟨A, x, M⟩ := t
    obtain ⟨rfl, rfl, rfl, _⟩ := cut_some hc
    exact cache_get_hit c g m A M x B w h
theorem cache_pin_any (hp : ∀ x ∈ L, x.pins + 1 ≤ 1000000) : Calls Try.prog 30 #[.pointer (some ⟨c, 0, none⟩), .agg #[.int .i64 f, .int .i64 b]] w fun e w' => e = .returned (.bool (pinM L f b 1).1) ∧ CacheAt w' c g m (pinM L f b 1).2 B ∧ Chg (FootC c g m L) w w' := by
  unfold pinM
  cases hc : cut f b L with
  | none =>
    exact (cache_pin_miss c g m L B f b hf hb (cut_none hc) w h).mono fun e w' ⟨he, hc⟩ => ⟨he, h.same hc, hc.mono (by simp)⟩
  | some t =>
    obtain ⟨A, x, M⟩ := t
    obtain ⟨rfl, rfl, rfl, _⟩ := cut_some hc
    have := (h.good x (by simp)).pins.1
    simp only [if_neg (show ¬ (x.pins + 1 < 0) from by omega)]
    exact cache_pin_hit c g m A M x B (hp x (by simp)) w h
theorem cache_unpin_any : Calls Try.prog 34 #[.pointer (some ⟨c, 0, none⟩), .agg #[.int .i64 f, .int .i64 b]] w fun e w' => e = .returned (.bool (pinM L f b (-1)).1) ∧ CacheAt w' c g m (pinM L f b (-1)).2 B ∧ Chg (FootC c g m L) w w' := by
  unfold pinM
  cases hc : cut f b L with
  | none =>
    exact (cache_unpin_miss c g m L B f b hf hb (cut_none hc) w h).mono fun e w' ⟨he, hc⟩ => ⟨he, h.same hc, hc.mono (by simp)⟩
  | some t =>
    obtain ⟨A, x, M⟩ := t
    obtain ⟨rfl, rfl, rfl, _⟩ := cut_some hc
    have := (h.good x (by simp)).pins.1
    by_cases h0 : x.pins = 0
    · simp only [if_pos (show x.pins + -1 < 0 from by omega)]
      exact (cache_unpin_zero c g m _ x B (by simp) h0 w h).mono fun e w' ⟨he, hc⟩ => ⟨he, h.same hc, hc.mono (by simp)⟩
    · simp only [if_neg (show ¬ (x.pins + -1 < 0) from by omega)]
      exact cache_unpin_hit c g m A M x B (by omega) w h
end
theorem cache_drop_any (c g m : Nat) (L : List Node) (B : Bud) (f : Int) (w : World) (h : CacheAt w c g m L B) :
    Calls Try.prog 33 #[.pointer (some ⟨c, 0, none⟩), .int .i64 f] w fun e w' => e = .returned (.tuple #[]) ∧ CacheAt w' c g m (notFile f L) (bdrop B (ofFile f L)) ∧ Chg (FootC c g m L) w w' := by
  have := cache_drop c g m L B f w h
  rw [rem_ofFile f L h.ring.apart] at this
  exact this
/-- A budget that holds something else for another kind. -/
theorem CacheAt.change {w w' : World} {c g m : Nat} {L : List Node} {B B' : Bud} (h : CacheAt w c g m L B) (hb : BudAt w' g B') (hc : Chg (fun k => k = g) w w') (e : B'.b = B.b) : CacheAt w' c g m L B' := by
  obtain ⟨n, f, hm, ht⟩ := h.map
  have hng : ∀ y ∈ L, y.id ≠ g := fun y hy e => by
    obtain ⟨_, _, hy'⟩ := h.ring.seg.blk hy
    exact hy'.ne_ h.bud.blk (by decide) e
  exact ⟨h.ring.chg hc (h.ring.blk.ne_ h.bud.blk (by decide)) hng, ⟨n, f, hm.chg hc (fun e => h.bud.blk.ne_map hm e.symm), ht⟩, hb, h.keys, h.good, by rw [e]; exact h.tot⟩
theorem change0_b (B : Bud) (n : Int) : (B.change 0 n).2.b = B.b := by
  unfold Bud.change
  split
  · rfl
  · split
    · rfl
    · simp [Bud.put]

theorem LSmall.of {w : World} {c g m : Nat} {L : List Node} {B : Bud} (h : CacheAt w c g m L B) : LSmall L ∧ total L ≤ 1099511627776 := by
  obtain ⟨t1, t2, t3, t4⟩ := h.tot_le
  exact ⟨⟨len_of_total (L := L) (by omega), fun x hx => (h.good x hx).data⟩, by omega⟩

section
variable (r rb : Nat) (v : Value) (L : List Node) (B : Bud) (f b : Int) (w : World) (h : RCacheAt w r rb 0 v L B)
include h
theorem ref_get_any (hs : LSmall L) : Calls Try.prog 53 #[.pointer (some ⟨r, 0, none⟩), .int .i64 f, .int .i64 b] w fun e w' => e = .returned (.tuple #[.string (getM L f b).1, .bool (getM L f b).2.1]) ∧ RStep r rb v w w' (getM L f b).2.2 B := by
  unfold getM
  cases hc : cut f b L with
  | none =>
    exact (ref_get_miss r rb v L B f b (cut_none hc) w h).mono fun e w' ⟨he, hc⟩ => ⟨he, RStep.same (h.same hc) (hc.mono (by simp))⟩
  | some t =>
    obtain ⟨A, x, M⟩ := t
    obtain ⟨hL, rfl, rfl, hA⟩ := cut_some hc
    exact ref_get_hit r rb v L A M x B hL hA hs w h
theorem ref_pin_any (d : Int) (hd0 : -1 ≤ d) (hd1 : d ≤ 1) (hp : ∀ x ∈ L, 0 ≤ x.pins ∧ x.pins ≤ 1000000) : Calls Try.prog 54 #[.pointer (some ⟨r, 0, none⟩), .int .i64 f, .int .i64 b, .int .i64 d] w fun e w' => e = .returned (.bool (pinM L f b d).1) ∧ RStep r rb v w w' (pinM L f b d).2 B := by
  unfold pinM
  cases hc : cut f b L with
  | none =>
    exact (ref_pin_miss r rb v L B f b d (cut_none hc) w h).mono fun e w' ⟨he, hc⟩ => ⟨he, RStep.same (h.same hc) (hc.mono (by simp))⟩
  | some t =>
    obtain ⟨A, x, M⟩ := t
    obtain ⟨hL, rfl, rfl, hA⟩ := cut_some hc
    obtain ⟨p0, p1⟩ := hp x (by rw [hL]; simp)
    by_cases hn : x.pins + d < 0
    · simp only [if_pos hn]
      exact (ref_pin_no r rb v L A M x B d hL hA hd0 hd1 p0 p1 hn w h).mono fun e w' ⟨he, hc⟩ => ⟨he, RStep.same (h.same hc) (hc.mono (by simp))⟩
    · simp only [if_neg hn]
      exact ref_pin_hit r rb v L A M x B d hL hA hd0 hd1 p0 p1 (by omega) w h
theorem ref_shrink_any (n : Int) (hs : LSmall L) (ht : total L ≤ 1099511627776) (hA : Apart L) (hb : B.b = total L) : Calls Try.prog 56 #[.pointer (some ⟨r, 0, none⟩), .int .i64 n] w fun e w' => e = .returned (.bool (shrink L B n).1) ∧ RStep r rb v w w' (shrink L B n).2.1 (shrink L B n).2.2 := by
  have hp := pick_lt n (B.l - B.u) L
  unfold shrink
  by_cases hn : (pick n (B.l - B.u) L).2 < n
  · rw [if_pos hn]
    exact (ref_shrink_no r rb v L B n hs ht w h (hp.1 hn)).mono fun e w' ⟨he, k, hk⟩ => ⟨he, by subst hk; exact RStep.same (h.same ((Chg.refl _ _).drewN _)) ((Chg.refl _ _).drewN _)⟩
  · rw [if_neg hn]
    have := ref_shrink_yes r rb v L B n hs ht w h (by have := fun h => hn (hp.2 h); omega)
    rw [rsh_pick n L B hA h.bud.good (by omega)] at this
    exact this
theorem ref_put_any (s : ByteArray) (i : Nat) (hss : s.size ≤ 140737488355328) (hs : LSmall L) (ht : total L ≤ 1099511627776) (hA : Apart L) (hb : B.b = total L) : Calls Try.prog 57 #[.pointer (some ⟨r, 0, none⟩), .int .i64 f, .int .i64 b, .string s] w fun e w' => e = .returned (.int .i64 (putM L B f b s i).1) ∧ RStep r rb v w w' (putM L B f b s i).2.1 (putM L B f b s i).2.2 := by
  have hp := pick_lt (64 + (s.size : Int)) (B.l - B.u) L
  unfold putM
  cases hk : hasKey L f b with
  | true =>
    rw [if_pos rfl]
    cases hc : cut f b L with
    | none =>
      obtain ⟨x, hx, e1, e2⟩ := hasKey_true hk
      exact absurd ⟨e1, e2⟩ (cut_none hc x hx)
    | some t =>
      obtain ⟨A, x, M⟩ := t
      obtain ⟨hL, rfl, rfl, hA⟩ := cut_some hc
      exact (ref_put_there r rb v L A M x B s hL hA w h).mono fun e w' ⟨he, hc⟩ => ⟨he, RStep.same (h.same hc) (hc.mono (by simp))⟩
  | false =>
    rw [if_neg (by simp)]
    have hx := hasKey_false hk
    have hsr := shrink_room (L := L) (B := B) (n := 64 + (s.size : Int)) h.bud.good hb
    unfold shrink at *
    by_cases hn : (pick (64 + (s.size : Int)) (B.l - B.u) L).2 < 64 + (s.size : Int)
    · simp only [if_pos hn]
      exact (ref_put_no r rb v L B f b s hx hs ht hss (hp.1 hn) w h).mono fun e w' ⟨he, hc⟩ => ⟨he, RStep.same (h.same hc) (hc.mono (by simp))⟩
    · simp only [if_neg hn] at hsr ⊢
      have hr := rsh_pick (64 + (s.size : Int)) L B hA h.bud.good (by omega)
      have hl1 : (rsh (64 + (s.size : Int)) B L).1.length + 1 ≤ 17179869184 := by
        rw [hr]
        simp only
        rcases hsr trivial with ⟨h1, h2, h3⟩ | h1
        · have a0 := h2.a0; have c0 := h2.c0; have d0 := h2.d0; have u0 := h2.u0; have l1 := h2.l1
          have := len_of_total (L := ⟨0, 0, 0, s, 0⟩ :: rem L (pick (64 + (s.size : Int)) (B.l - B.u) L).1) (by simp only [total, costOf]; omega)
          simpa using this
        · exact absurd hA h1
      have := ref_put_yes r rb v L B f b s i hx hs hl1 ht hss (by have := fun h => hn (hp.2 h); omega) w h
      rw [hr] at this
      exact this
end
end Go.Proofs.Ytafdgncjfiiekaa
