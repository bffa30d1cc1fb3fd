/-
  The cache: contracts of Pin, Unpin, drop.
-/
import Derived.Test.YtafdgncjfiiekaaCacheC
import Derived.Deep.RegionHeld3
namespace Go.Proofs.Ytafdgncjfiiekaa
open Go.RowKit
set_option linter.unusedVariables false
set_option linter.unusedSimpArgs false

theorem headAd_mid (A M : List Node) (x y : Node) (q : Addr) (h : x.id = y.id) : headAd (A ++ x :: M) q = headAd (A ++ y :: M) q := by
  cases A <;> simp [headAd, nad, h]
theorem lastAd_mid (A M : List Node) (x y : Node) (p : Addr) (h : x.id = y.id) : lastAd (A ++ x :: M) p = lastAd (A ++ y :: M) p := by
  rw [lastAd_app, lastAd_app]; simp [lastAd, nad, h]
theorem Seg.head_eq {w : World} {q q' : Addr} {p : Addr} : ∀ {L : List Node} {p : Addr}, q = q' → Seg w p L q → Seg w p L q' := fun e h => e ▸ h

/-- A node's pins are another number. -/
theorem RingAt.setPins {w : World} {c g m : Nat} {A M : List Node} {x : Node} (h : RingAt w c g m (A ++ x :: M)) (n : Int) :
    RingAt (w.setCell ⟨x.id, 3, none⟩ (.int .i64 n)) c g m (A ++ { x with pins := n } :: M) := by
  obtain ⟨hA, hM, hA1, hM1, hAM, hd⟩ := h.apart.mid
  have hxc := h.ne_ (y := x) (by simp)
  obtain ⟨s1, s2, s3⟩ := Seg.app.1 h.seg
  refine ⟨?_, Seg.app.2 ⟨?_, ?_, ?_⟩, ?_⟩
  · have := h.blk.far (p := ⟨x.id, 3, none⟩) hxc.symm (.int .i64 n)
    rw [headAd_mid A M x { x with pins := n } _ rfl, lastAd_mid A M x { x with pins := n } _ rfl] at this
    exact this
  · exact Seg.far (a := ⟨x.id, 3, none⟩) _ hA s1
  · have := s2.set_ 3 (.int .i64 n)
    simpa [nodeCells] using this
  · exact Seg.far (a := ⟨x.id, 3, none⟩) _ hM s3
  · unfold Apart at *
    have h0 := h.apart
    unfold Apart at h0
    rw [List.pairwise_append, List.pairwise_cons] at h0 ⊢
    refine ⟨h0.1, ⟨h0.2.1.1, h0.2.1.2⟩, fun a ha b hb => ?_⟩
    rcases List.mem_cons.1 hb with rfl | hb
    · exact h0.2.2 a ha x (by simp)
    · exact h0.2.2 a ha b (by simp [hb])

theorem CacheAt.setPins {w : World} {c g m : Nat} {A M : List Node} {x : Node} {B : Bud} (h : CacheAt w c g m (A ++ x :: M) B) (n : Int) (hn : 0 ≤ n ∧ n ≤ 1000000) :
    CacheAt (w.setCell ⟨x.id, 3, none⟩ (.int .i64 n)) c g m (A ++ { x with pins := n } :: M) B := by
  have hc : Chg (Foot c (A ++ x :: M)) w (w.setCell ⟨x.id, 3, none⟩ (.int .i64 n)) := Chg.setCell (Chg.refl _ _) (fun _ => .inr ⟨x, by simp, rfl⟩) _
  obtain ⟨k, f, hm, ht⟩ := h.map
  obtain ⟨ng, nm⟩ := h.not_foot (fun y hy => hy)
  refine ⟨h.ring.setPins n, ⟨k, f, hm.chg hc nm, fun key v => ?_⟩, h.bud.chg hc ng, ?_, fun y hy => ?_, ?_⟩
  · rw [ht key v]
    constructor
    · rintro ⟨y, hy, e1, e2⟩
      rcases List.mem_append.1 hy with hy | hy
      · exact ⟨y, by simp [hy], e1, e2⟩
      · rcases List.mem_cons.1 hy with rfl | hy
        · exact ⟨{ y with pins := n }, by simp, e1, e2⟩
        · exact ⟨y, by simp [hy], e1, e2⟩
    · rintro ⟨y, hy, e1, e2⟩
      rcases List.mem_append.1 hy with hy | hy
      · exact ⟨y, by simp [hy], e1, e2⟩
      · rcases List.mem_cons.1 hy with rfl | hy
        · exact ⟨x, by simp, e1, e2⟩
        · exact ⟨y, by simp [hy], e1, e2⟩
  · have hk := h.keys
    unfold Distinct at *
    rw [List.pairwise_append, List.pairwise_cons] at hk ⊢
    refine ⟨hk.1, ⟨hk.2.1.1, hk.2.1.2⟩, fun a ha b hb => ?_⟩
    rcases List.mem_cons.1 hb with rfl | hb
    · exact hk.2.2 a ha x (by simp)
    · exact hk.2.2 a ha b (by simp [hb])
  · rcases List.mem_append.1 hy with hy | hy
    · exact h.good y (by simp [hy])
    · rcases List.mem_cons.1 hy with rfl | hy
      · have := h.good x (by simp)
        exact ⟨this.file, this.blk, hn, this.data⟩
      · exact h.good y (by simp [hy])
  · rw [h.tot, total_app, total_app]; rfl

theorem cache_pin_hit (c g m : Nat) (A M : List Node) (x : Node) (B : Bud) (hp : x.pins + 1 ≤ 1000000) (w : World) (h : CacheAt w c g m (A ++ x :: M) B) :
    Calls Try.prog 30 #[.pointer (some ⟨c, 0, none⟩), .agg #[.int .i64 x.file, .int .i64 x.blk]] w fun e w' => e = .returned (.bool true) ∧ CacheAt w' c g m (A ++ { x with pins := x.pins + 1 } :: M) B ∧ Chg (FootC c g m (A ++ x :: M)) w w' := by
  have hpos := (h.good x (by simp)).pins.1
  have H := Lib.hid h
  clear h
  go_enter Try.func30, Try.ntmps30
  go_wp2_with fail
  have h1 : CacheAt (w.alloc (.cells #[.int .i64 x.file, .int .i64 x.blk] 48)) c g m (A ++ x :: M) B := H.out.same (by ((repeat (first | exact Chg.refl _ _ | assumption | refine Chg.drewN ?_ _ | refine Chg.drew ?_ | refine Chg.alloc ?_ _ | refine Chg.setCell ?_ (by simp) _))))
  refine (cache_find_hit c g m _ B x (by simp) _ h1).mono ?_
  rintro e w2 ⟨rfl, hc2⟩
  have h2 := h1.same hc2
  have hcc : Chg (FootC c g m (A ++ x :: M)) w w2 := (Chg.alloc (Chg.refl _ _) _).trans (hc2.mono (by simp)) (fun _ _ h => h)
  have hx3 := h2.ring.seg.at_.cell 3
  have hf3 := h2.ring.seg.at_.frozen 3
  simp [nodeCells] at hx3
  have h3 := h2.setPins (x.pins + 1) (by omega)
  clear h1 hc2
  go_wp2_with fail
  go_ret
  exact ⟨rfl, h3, Chg.setCell hcc (fun _ => .inr (.inr (.inr ⟨x, by simp, rfl⟩))) _⟩

theorem cache_pin_miss (c g m : Nat) (L : List Node) (B : Bud) (a b : Int) (ha : In64 a) (hb : In64 b) (hx : ∀ x ∈ L, ¬ (x.file = a ∧ x.blk = b)) (w : World) (h : CacheAt w c g m L B) :
    Calls Try.prog 30 #[.pointer (some ⟨c, 0, none⟩), .agg #[.int .i64 a, .int .i64 b]] w fun e w' => e = .returned (.bool false) ∧ Chg (fun _ => False) w w' := by
  have H := Lib.hid h
  have HX := Lib.hid hx
  clear h hx
  go_enter Try.func30, Try.ntmps30
  go_wp2_with fail
  refine (cache_find_miss c g m L B a b ha hb HX.out _ (H.out.same (by ((repeat (first | exact Chg.refl _ _ | assumption | refine Chg.drewN ?_ _ | refine Chg.drew ?_ | refine Chg.alloc ?_ _ | refine Chg.setCell ?_ (by simp) _)))))).mono ?_
  rintro e w2 ⟨rfl, hc2⟩
  go_wp2_with fail
  go_ret
  exact ⟨rfl, Chg.then (by ((repeat (first | exact Chg.refl _ _ | assumption | refine Chg.drewN ?_ _ | refine Chg.drew ?_ | refine Chg.alloc ?_ _ | refine Chg.setCell ?_ (by simp) _)))) hc2⟩

theorem cache_unpin_hit (c g m : Nat) (A M : List Node) (x : Node) (B : Bud) (hp : 0 < x.pins) (w : World) (h : CacheAt w c g m (A ++ x :: M) B) :
    Calls Try.prog 34 #[.pointer (some ⟨c, 0, none⟩), .agg #[.int .i64 x.file, .int .i64 x.blk]] w fun e w' => e = .returned (.bool true) ∧ CacheAt w' c g m (A ++ { x with pins := x.pins - 1 } :: M) B ∧ Chg (FootC c g m (A ++ x :: M)) w w' := by
  have hpos := (h.good x (by simp)).pins.2
  have hp0 : ((x.pins) == 0) = false := by simp; omega
  have H := Lib.hid h
  clear h
  go_enter Try.func34, Try.ntmps34
  go_wp2_with fail
  have h1 : CacheAt (w.alloc (.cells #[.int .i64 x.file, .int .i64 x.blk] 48)) c g m (A ++ x :: M) B := H.out.same (by ((repeat (first | exact Chg.refl _ _ | assumption | refine Chg.drewN ?_ _ | refine Chg.drew ?_ | refine Chg.alloc ?_ _ | refine Chg.setCell ?_ (by simp) _))))
  refine (cache_find_hit c g m _ B x (by simp) _ h1).mono ?_
  rintro e w2 ⟨rfl, hc2⟩
  have h2 := h1.same hc2
  have hcc : Chg (FootC c g m (A ++ x :: M)) w w2 := (Chg.alloc (Chg.refl _ _) _).trans (hc2.mono (by simp)) (fun _ _ h => h)
  have hx3 := h2.ring.seg.at_.cell 3
  have hf3 := h2.ring.seg.at_.frozen 3
  simp [nodeCells] at hx3
  have h3 := h2.setPins (x.pins - 1) (by omega)
  clear h1 hc2
  go_wp2_with fail
  go_ret
  exact ⟨rfl, h3, Chg.setCell hcc (fun _ => .inr (.inr (.inr ⟨x, by simp, rfl⟩))) _⟩

theorem cache_unpin_zero (c g m : Nat) (L : List Node) (x : Node) (B : Bud) (hxL : x ∈ L) (hp : x.pins = 0) (w : World) (h : CacheAt w c g m L B) :
    Calls Try.prog 34 #[.pointer (some ⟨c, 0, none⟩), .agg #[.int .i64 x.file, .int .i64 x.blk]] w fun e w' => e = .returned (.bool false) ∧ Chg (fun _ => False) w w' := by
  have H := Lib.hid h
  have HX := Lib.hid hxL
  clear h hxL
  go_enter Try.func34, Try.ntmps34
  go_wp2_with fail
  have h1 : CacheAt (w.alloc (.cells #[.int .i64 x.file, .int .i64 x.blk] 48)) c g m L B := H.out.same (by ((repeat (first | exact Chg.refl _ _ | assumption | refine Chg.drewN ?_ _ | refine Chg.drew ?_ | refine Chg.alloc ?_ _ | refine Chg.setCell ?_ (by simp) _))))
  refine (cache_find_hit c g m _ B x HX.out _ h1).mono ?_
  rintro e w2 ⟨rfl, hc2⟩
  obtain ⟨_, _, hb⟩ := (h1.same hc2).ring.seg.blk HX.out
  have hx3 := hb.cell 3
  simp [nodeCells, hp] at hx3
  have hcc : Chg (fun _ => False) w w2 := (Chg.alloc (Chg.refl _ _) _).then hc2
  clear h1 hc2 hb hp
  go_wp2_with fail
  go_ret
  exact ⟨rfl, hcc⟩

theorem cache_unpin_miss (c g m : Nat) (L : List Node) (B : Bud) (a b : Int) (ha : In64 a) (hb : In64 b) (hx : ∀ x ∈ L, ¬ (x.file = a ∧ x.blk = b)) (w : World) (h : CacheAt w c g m L B) :
    Calls Try.prog 34 #[.pointer (some ⟨c, 0, none⟩), .agg #[.int .i64 a, .int .i64 b]] w fun e w' => e = .returned (.bool false) ∧ Chg (fun _ => False) w w' := by
  have H := Lib.hid h
  have HX := Lib.hid hx
  clear h hx
  go_enter Try.func34, Try.ntmps34
  go_wp2_with fail
  refine (cache_find_miss c g m L B a b ha hb HX.out _ (H.out.same (by ((repeat (first | exact Chg.refl _ _ | assumption | refine Chg.drewN ?_ _ | refine Chg.drew ?_ | refine Chg.alloc ?_ _ | refine Chg.setCell ?_ (by simp) _)))))).mono ?_
  rintro e w2 ⟨rfl, hc2⟩
  go_wp2_with fail
  go_ret
  exact ⟨rfl, Chg.then (by ((repeat (first | exact Chg.refl _ _ | assumption | refine Chg.drewN ?_ _ | refine Chg.drew ?_ | refine Chg.alloc ?_ _ | refine Chg.setCell ?_ (by simp) _)))) hc2⟩
end Go.Proofs.Ytafdgncjfiiekaa
