/-
  The document's list of blocks: Get, Pin.
-/
import Derived.Test.YtafdgncjfiiekaaRefF
import Derived.Deep.RegionHeld3
import Derived.Deep.RegionLaw
namespace Go.Proofs.Ytafdgncjfiiekaa
open Go.RowKit
set_option linter.unusedVariables false
set_option linter.unusedSimpArgs false

theorem find_miss (f b : Int) : ∀ (k : Nat) (L : List Node), (∀ x ∈ L, ¬ (x.file = f ∧ x.blk = b)) → findFrom f b k L = -1
  | _, [], _ => rfl
  | k, x :: xs, h => by
    rw [findFrom, if_neg (h x (by simp))]
    exact find_miss f b (k + 1) xs fun y hy => h y (by simp [hy])
theorem find_hit (f b : Int) (x : Node) (M : List Node) (hx : x.file = f ∧ x.blk = b) : ∀ (k : Nat) (A : List Node), (∀ y ∈ A, ¬ (y.file = f ∧ y.blk = b)) → findFrom f b k (A ++ x :: M) = ((k + A.length : Nat) : Int)
  | k, [], _ => by rw [List.nil_append, findFrom, if_pos hx]; simp
  | k, y :: ys, h => by
    rw [List.cons_append, findFrom, if_neg (h y (by simp)), find_hit f b x M hx (k + 1) ys fun z hz => h z (by simp [hz])]
    simp; omega

/-- Behind an append to the list, and the store of its header. -/
theorem rc_append {W wa w4 : World} {r rb g n cap : Nat} {v1 : Value} {B : Bud} {N : List Node} {x : Node} (hr : Blk W r 65 #[v1, .pointer (some ⟨rb, 0, none⟩)]) (hb : RBudAt W rb B)
    (hwa : Chg (fun _ => False) W wa) (hgrow : wa.grownBy w4 v1.ownBlock) (hown : w4.ownsRow 0 95 4 (.slice (some ⟨g, 0, none⟩) (N.length + 1) cap) (N.length + 1) (blocksFlat N ++ [.int .i64 x.file, .int .i64 x.blk, .string x.data, .int .i64 x.pins]))
    (hat : v1.ownBlock = some g ∨ g = W.heap.size + n) (hv1 : ∀ k, v1.ownBlock = some k → k ≠ r ∧ k ≠ rb) :
    RCacheAt (w4.setCell ⟨r, 0, none⟩ (.slice (some ⟨g, 0, none⟩) (N.length + 1) cap)) r rb 0 (.slice (some ⟨g, 0, none⟩) (N.length + 1) cap) (N ++ [x]) B ∧ Chg (fun k => k = r ∨ v1.ownBlock = some k) W (w4.setCell ⟨r, 0, none⟩ (.slice (some ⟨g, 0, none⟩) (N.length + 1) cap)) := by
  have hc4 : Chg (fun k => v1.ownBlock = some k) W w4 := (hwa.mono (by simp)).grown hgrow (fun k e _ => e)
  have hr4 := hr.chg hc4 (fun e => (hv1 r e).1 rfl)
  have hb4 := hb.chg hc4 (fun e => (hv1 rb e).2 rfl)
  have hrb : r ≠ rb := hr.ne_ hb.blk (by decide)
  have hg : g ≠ r := by
    rcases hat with e | e
    · exact (hv1 g e).1
    · have := hr.lt; omega
  have hset : Chg (fun k => k = r) w4 (w4.setCell ⟨r, 0, none⟩ (.slice (some ⟨g, 0, none⟩) (N.length + 1) cap)) := Chg.setOwn (Chg.refl _ _) _ _
  refine ⟨⟨by simpa using hr4.set_ 0 (.slice (some ⟨g, 0, none⟩) (N.length + 1) cap), own_chg ?_ hset (fun k hk => ?_), hb4.chg hset hrb.symm⟩, (hc4.mono (fun _ _ h => .inr h)).setCell (fun _ => .inl rfl) _⟩
  · rw [blocksFlat_snoc, List.length_append, List.length_singleton]; exact hown
  · simp [Value.ownBlock] at hk; omega

theorem ref_get_miss (r rb : Nat) (v : Value) (L : List Node) (B : Bud) (f b : Int) (hx : ∀ x ∈ L, ¬ (x.file = f ∧ x.blk = b)) (w : World) (h : RCacheAt w r rb 0 v L B) :
    Calls Try.prog 53 #[.pointer (some ⟨r, 0, none⟩), .int .i64 f, .int .i64 b] w fun e w' => e = .returned (.tuple #[.string ⟨#[]⟩, .bool false]) ∧ Chg (fun _ => False) w w' := by
  have hf := ref_find r rb 0 v L B f b w h
  rw [find_miss f b 0 L hx] at hf
  have HF := Lib.hid hf
  clear hf h hx
  go_enter Try.func53, Try.ntmps53
  go_wp2_with fail
  refine HF.out.mono ?_
  rintro e w' ⟨rfl, n, rfl⟩
  go_wp2_with fail
  go_ret2
  exact ⟨rfl, by ((repeat (first | exact Chg.refl _ _ | assumption | refine Chg.drewN ?_ _ | refine Chg.drew ?_ | refine Chg.alloc ?_ _ | refine Chg.setCell ?_ (by simp) _)))⟩

set_option maxRecDepth 100000 in
set_option maxHeartbeats 4000000 in
theorem ref_get_hit (r rb : Nat) (v : Value) (L A M : List Node) (x : Node) (B : Bud) (hL : L = A ++ x :: M) (hA : ∀ y ∈ A, ¬ (y.file = x.file ∧ y.blk = x.blk)) (hsm : LSmall L) (w : World) (h : RCacheAt w r rb 0 v L B) :
    Calls Try.prog 53 #[.pointer (some ⟨r, 0, none⟩), .int .i64 x.file, .int .i64 x.blk] w fun e w' => e = .returned (.tuple #[.string x.data, .bool true]) ∧ RStep r rb v w w' (A ++ M ++ [x]) B := by
  obtain ⟨i0, hi, hz0, hz1, hz2⟩ := info_parts info_rblock
  have hf := ref_find r rb 0 v L B x.file x.blk w h
  rw [show findFrom x.file x.blk 0 L = (A.length : Int) from by rw [hL, find_hit _ _ x M ⟨rfl, rfl⟩ 0 A hA]; simp] at hf
  obtain ⟨bk, cap, rfl, hbk, hlt, z0, z1, z2, z3⟩ := rc_read h hL
  obtain ⟨_, _, _, hn, c0, _⟩ := rc_len h
  have hwo := fun W hc => ref_without 0 _ L A.length hsm.1 W (own_chg (S := fun _ => False) (w := w) (w' := W) h.own hc (by simp))
  rw [show L.eraseIdx A.length = A ++ M from by rw [hL]; exact erase_at A M x] at hwo
  have hNl : (A ++ M).length + 1 ≤ 17179869184 := by have := hsm.1; rw [hL] at this; simp at this ⊢; omega
  have hrf := h.blk.frozen 0
  have hrlt := h.blk.lt
  have HF := Lib.hid hf
  have H := Lib.hid h
  have HWO := Lib.hid hwo
  generalize A ++ M = N at *
  have hge : (0 : Int) ≤ (A.length : Int) := by omega
  generalize A.length = p at *
  clear hf h hwo hL hA hsm
  go_enter Try.func53, Try.ntmps53
  go_wp2_with fail
  refine HF.out.mono ?_
  rintro e w1 ⟨rfl, n, hw1⟩
  have hd1 : Chg (fun _ => False) w w1 := by rw [← hw1]; ((repeat (first | exact Chg.refl _ _ | assumption | refine Chg.drewN ?_ _ | refine Chg.drew ?_ | refine Chg.alloc ?_ _ | refine Chg.setCell ?_ (by simp) _)))
  have hs1 : w1.heap.size = w.heap.size := by rw [← hw1]; rfl
  have c0' : w1.cell? ⟨r, 0, none⟩ = some (.slice (some ⟨bk, 0, none⟩) L.length cap) := by rw [← hw1]; exact c0
  have z0' : w1.cell? ⟨bk, p * 4, none⟩ = some (.int .i64 x.file) := by rw [← hw1]; exact z0
  have z1' : w1.cell? ⟨bk, p * 4 + 1, none⟩ = some (.int .i64 x.blk) := by rw [← hw1]; exact z1
  have z2' : w1.cell? ⟨bk, p * 4 + 2, none⟩ = some (.string x.data) := by rw [← hw1]; exact z2
  have z3' : w1.cell? ⟨bk, p * 4 + 3, none⟩ = some (.int .i64 x.pins) := by rw [← hw1]; exact z3
  have HS1 := Lib.hid hs1
  have hrlt1 : r < w1.heap.size := by omega
  clear HF c0 z0 z1 z2 z3 hw1 hs1
  go_wp2_with fail
  refine (HWO.out _ (hd1.alloc _)).mono ?_
  rintro e w2 ⟨v1, rfl, hown1, hc1⟩
  obtain ⟨a1, cap1, rfl, hn1, _⟩ := blocks_form hown1
  have hbox : Blk (w1.alloc (.cells #[.int .i64 x.file, .int .i64 x.blk, .string x.data, .int .i64 x.pins] 95)) w1.heap.size 95 #[.int .i64 x.file, .int .i64 x.blk, .string x.data, .int .i64 x.pins] := Blk.new w1 _ _
  have hbox2 := hbox.chg hc1 (by simp)
  have hca : Chg (fun _ => False) w w2 := (hd1.alloc _).then hc1
  have hr2 := H.out.blk.chg hca (by simp)
  have hb2 := H.out.bud.chg hca (by simp)
  have fr2 := hr2.frozen 0
  have d0 := hr2.cell 0
  simp at d0
  have hs2 := hca.size
  have hlb : ∀ k, (Value.slice a1 N.length cap1).ownBlock = some k → w1.heap.size < k := fun k hk => by
    have := (hown1.lt k hk).1
    simp at this; omega
  have e0 := (hbox2.far (p := ⟨r, 0, none⟩) (by simp; omega) (.slice a1 N.length cap1))
  have hl3 := e0.lt
  have y0 := e0.cell 0
  have y1 := e0.cell 1
  have y2 := e0.cell 2
  have y3 := e0.cell 3
  have hr3 : Blk (w2.setCell ⟨r, 0, none⟩ (.slice a1 N.length cap1)) r 65 #[.slice a1 N.length cap1, .pointer (some ⟨rb, 0, none⟩)] := by simpa using hr2.set_ 0 (.slice a1 N.length cap1)
  have hset : Chg (fun k => k = r) w2 (w2.setCell ⟨r, 0, none⟩ (.slice a1 N.length cap1)) := Chg.setOwn (Chg.refl _ _) _ _
  have hrb := H.out.apart.1
  have hb3 := hb2.chg hset hrb.symm
  have ho3 := own_chg (own_base hown1) hset (fun k hk e => by have := hlb k hk; omega)
  have hc3 : Chg (fun k => k = r) w (w2.setCell ⟨r, 0, none⟩ (.slice a1 N.length cap1)) := (hca.mono (by simp)).then hset
  have c3 := hr3.cell 0
  have fr3 := hr3.frozen 0
  simp at y0 y1 y2 y3 c3
  have HR3 := Lib.hid hr3
  have HB3 := Lib.hid hb3
  have HO3 := Lib.hid ho3
  have HC3 := Lib.hid hc3
  have HLB := Lib.hid hlb
  clear hown1 hc1 hbox hbox2 hca hr2 hb2 e0 hr3 hset hb3 ho3 hc3 hlb z0' z1' z2' z3' c0' HWO
  go_wp2_with fail
  obtain ⟨W3, hW3⟩ : ∃ W3, W3 = w2.setCell ⟨r, 0, none⟩ (.slice a1 N.length cap1) := ⟨_, rfl⟩
  rw [← hW3] at HR3 HB3 HO3 HC3 y0 y1 y2 y3 c3 fr3 hl3
  rw [← hW3]
  have hr3l := HR3.out.lt
  clear hW3 d0 fr2 hs2
  have HVR := Lib.hid (show ∀ k, (Value.slice a1 N.length cap1).ownBlock = some k → k ≠ r ∧ k ≠ rb from fun k hk => by
    have := HLB.out k hk
    have := H.out.bud.blk.lt
    have := HS1.out
    omega)
  go_region_law ((refine step_append_lies _ (by rfl) _ _ _ (by rfl) 0 95 i0 (.agg #[.int .i64 0, .int .i64 0, .string ⟨#[]⟩, .int .i64 0]) 4 40 Try.underlying63 hi hz0 hz1 hz2 rfl (by decide) (.slice a1 N.length cap1) N.length (blocksFlat N) (by rfl) (own_chg (S := fun _ => False) HO3.out (by ((repeat (first | exact Chg.refl _ _ | assumption | refine Chg.drewN ?_ _ | refine Chg.drew ?_ | refine Chg.alloc ?_ _ | refine Chg.setCell ?_ (by simp) _)))) (by simp)) ⟨W3.heap.size, 0, none⟩ 1 1 [.int .i64 x.file, .int .i64 x.blk, .string x.data, .int .i64 x.pins] (by rfl) rfl (World.news_of_block (cs := #[.int .i64 x.file, .int .i64 x.blk, .string x.data, .int .i64 x.pins]) (t := 95) (fr := (0, 0)) (heap_alloc_new _ _)) (by simp [Value.oneCell']) (by decide) (by unfold maxLen; omega) (by omega) (Nat.zero_le _) (W3.heap.size + 1) (by simp) ?_; intro g cap4 w4 hown4 hgrow hat hgl; have fz4 : w4.frozen? ⟨r, 0, none⟩ = false := (hgrow.frozen_far ⟨r, 0, none⟩ (by simp; omega) (fun e => by have := HLB.out _ e.symm; dsimp only at this; omega)).trans ((Chg.frozen (S := fun _ => False) (w := W3) (by ((repeat (first | exact Chg.refl _ _ | assumption | refine Chg.drewN ?_ _ | refine Chg.drew ?_ | refine Chg.alloc ?_ _ | refine Chg.setCell ?_ (by simp) _)))) hr3l (by simp)).trans fr3); have cz4 : w4.cell? ⟨r, 0, none⟩ = some (.slice a1 N.length cap1) := (hgrow.cell_far ⟨r, 0, none⟩ (by simp; omega) (fun e => by have := HLB.out _ e.symm; dsimp only at this; omega)).trans ((Chg.cell (S := fun _ => False) (w := W3) (by ((repeat (first | exact Chg.refl _ _ | assumption | refine Chg.drewN ?_ _ | refine Chg.drew ?_ | refine Chg.alloc ?_ _ | refine Chg.setCell ?_ (by simp) _)))) hr3l (by simp)).trans c3); have yz4 : w4.cell? ⟨w1.heap.size, 2, none⟩ = some (.string x.data) := (hgrow.cell_far ⟨w1.heap.size, 2, none⟩ (by simp; omega) (fun e => by have := HLB.out _ e.symm; dsimp only at this; omega)).trans ((Chg.cell (S := fun _ => False) (w := W3) (by ((repeat (first | exact Chg.refl _ _ | assumption | refine Chg.drewN ?_ _ | refine Chg.drew ?_ | refine Chg.alloc ?_ _ | refine Chg.setCell ?_ (by simp) _)))) hl3 (by simp)).trans y2); have hfin := rc_append HR3.out HB3.out (by ((repeat (first | exact Chg.refl _ _ | assumption | refine Chg.drewN ?_ _ | refine Chg.drew ?_ | refine Chg.alloc ?_ _ | refine Chg.setCell ?_ (by simp) _)))) hgrow hown4 (n := 1) hat HVR.out; have HFIN := Lib.hid hfin; have hat2 := Lib.hid hat; clear hfin hgrow hown4 hat))
  all_goals
    go_wp2_with fail
    go_ret2
    obtain ⟨hR, hC⟩ := HFIN.out
    refine ⟨rfl, _, hR, (HC3.out.mono (fun k _ e => .inl e)).trans hC (fun k hk e => ?_), fun k hk e => ?_⟩
    · rcases e with e | e
      · exact .inl e
      · have := HLB.out k e; have := HS1.out; omega
    · have hg' : g = k := by simpa [Value.ownBlock] using e
      subst hg'
      rcases hat2.out with e | e
      · have := HLB.out _ e; have := HS1.out; omega
      · have := HS1.out; omega
end Go.Proofs.Ytafdgncjfiiekaa
