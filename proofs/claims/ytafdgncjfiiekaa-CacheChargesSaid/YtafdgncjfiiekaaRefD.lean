/-
  The document's list of blocks: drop.
-/
import Derived.Test.YtafdgncjfiiekaaRefW
namespace Go.Proofs.Ytafdgncjfiiekaa
open Go.RowKit
set_option linter.unusedVariables false
set_option linter.unusedSimpArgs false

/-- All blocks of the reference's cache. -/
def RFoot (r rb : Nat) (v : Value) (k : Nat) : Prop := k = r ∨ k = rb ∨ v.ownBlock = some k
/-- A step of the reference: what the list and the budget are behind it. -/
def RStep (r rb : Nat) (v : Value) (w w' : World) (L' : List Node) (B' : Bud) : Prop :=
  ∃ v', RCacheAt w' r rb 0 v' L' B' ∧ Chg (RFoot r rb v) w w' ∧ ∀ k, k < w.heap.size → v'.ownBlock = some k → v.ownBlock = some k
theorem RStep.same {r rb : Nat} {v : Value} {w w' : World} {L : List Node} {B : Bud} (h : RCacheAt w' r rb 0 v L B) (hc : Chg (RFoot r rb v) w w') : RStep r rb v w w' L B := ⟨v, h, hc, fun _ _ h => h⟩
theorem RStep.trans {r rb : Nat} {v : Value} {w w1 w2 : World} {L2 : List Node} {B2 : Bud} {v1 : Value} (hc : Chg (RFoot r rb v) w w1) (hv : ∀ k, k < w.heap.size → v1.ownBlock = some k → v.ownBlock = some k) (h2 : RStep r rb v1 w1 w2 L2 B2) : RStep r rb v w w2 L2 B2 := by
  obtain ⟨v2, hR, hc2, hv2⟩ := h2
  refine ⟨v2, hR, hc.trans hc2 ?_, fun k hk e => hv k hk (hv2 k (Nat.lt_of_lt_of_le hk hc.size) e)⟩
  rintro k hk (e | e | e)
  · exact .inl e
  · exact .inr (.inl e)
  · exact .inr (.inr (hv k hk e))
theorem RCacheAt.lts {w : World} {r rb : Nat} {v : Value} {L : List Node} {B : Bud} (h : RCacheAt w r rb 0 v L B) : ∀ k, RFoot r rb v k → k < w.heap.size := by
  rintro k (rfl | rfl | e)
  · exact h.blk.lt
  · exact h.bud.blk.lt
  · exact (h.own.lt k e).2
theorem own_chg {S : Nat → Prop} {w w' : World} {t sz n base : Nat} {v : Value} {xs : List Value} (h : w.ownsRow base t sz v n xs) (hc : Chg S w w') (hS : ∀ k, v.ownBlock = some k → ¬ S k) : w'.ownsRow base t sz v n xs := by
  refine ⟨h.1, ?_⟩
  rcases h.2 with hn | ⟨g, cap, cur, rfl, hb, hg, rest⟩
  · exact .inl hn
  · exact .inr ⟨g, cap, cur, rfl, hb, (hc.block g (show Blk w g _ _ from hg).lt (hS g rfl)).trans hg, rest⟩
theorem own_base {w : World} {t sz n base : Nat} {v : Value} {xs : List Value} (h : w.ownsRow base t sz v n xs) : w.ownsRow 0 t sz v n xs := by
  refine ⟨h.1, ?_⟩
  rcases h.2 with hn | ⟨g, cap, cur, rfl, hb, rest⟩
  · exact .inl hn
  · exact .inr ⟨g, cap, cur, rfl, Nat.zero_le _, rest⟩
theorem own_typed {w : World} {t sz n base : Nat} {v : Value} {xs : List Value} (h : w.ownsRow base t sz v n xs) {k : Nat} (hk : v.ownBlock = some k) : ∃ cs, Blk w k t cs := by
  rcases h.2 with ⟨rfl, _⟩ | ⟨g, cap, cur, rfl, hb, hg, rest⟩
  · simp [Value.ownBlock] at hk
  · simp [Value.ownBlock] at hk; subst hk; exact ⟨_, hg⟩
theorem RCacheAt.apart {w : World} {r rb : Nat} {v : Value} {L : List Node} {B : Bud} (h : RCacheAt w r rb 0 v L B) : r ≠ rb ∧ (∀ k, v.ownBlock = some k → k ≠ r ∧ k ≠ rb) :=
  ⟨h.blk.ne_ h.bud.blk (by decide), fun k hk => by
    obtain ⟨cs, hb⟩ := own_typed h.own hk
    exact ⟨hb.ne_ h.blk (by decide), hb.ne_ h.bud.blk (by decide)⟩⟩
theorem RCacheAt.chg {S : Nat → Prop} {w w' : World} {r rb : Nat} {v : Value} {L : List Node} {B : Bud} (h : RCacheAt w r rb 0 v L B) (hc : Chg S w w') (hS : ∀ k, RFoot r rb v k → ¬ S k) : RCacheAt w' r rb 0 v L B :=
  ⟨h.blk.chg hc (hS _ (.inl rfl)), own_chg h.own hc fun k hk => hS _ (.inr (.inr hk)), h.bud.chg hc (hS _ (.inr (.inl rfl)))⟩
theorem RCacheAt.same {w w' : World} {r rb : Nat} {v : Value} {L : List Node} {B : Bud} (h : RCacheAt w r rb 0 v L B) (hc : Chg (fun _ => False) w w') : RCacheAt w' r rb 0 v L B := h.chg hc (by simp)
theorem erase_at (A M : List Node) (x : Node) : (A ++ x :: M).eraseIdx A.length = A ++ M := by
  rw [List.eraseIdx_append_of_length_le (Nat.le_refl _)]
  simp

set_option maxRecDepth 100000 in
set_option maxHeartbeats 2000000 in
theorem ref_drop1 (r rb : Nat) (v : Value) (L A M : List Node) (x : Node) (B : Bud) (hL : L = A ++ x :: M) (hlen : L.length ≤ 17179869184) (hx : x.data.size ≤ 140737488355328) (w : World) (h : RCacheAt w r rb 0 v L B) :
    Calls Try.prog 64 #[.pointer (some ⟨r, 0, none⟩), .int .i64 A.length] w fun e w' => e = .returned (.tuple #[]) ∧ RStep r rb v w w' (A ++ M) (B.release 1 (costOf x)).2 := by
  have c0 := h.blk.cell 0
  have c1 := h.blk.cell 1
  have f0 := h.blk.frozen 0
  simp at c0 c1
  have hwo := fun W hc => ref_without 0 v L A.length hlen W (own_chg (S := fun _ => False) (w := w) (w' := W) h.own hc (by simp))
  rw [show L.eraseIdx A.length = A ++ M from by rw [hL]; exact erase_at A M x] at hwo
  generalize A ++ M = N at hwo ⊢
  obtain ⟨a, cap, rfl, hn, hread⟩ := blocks_form h.own
  have hpos : A.length < L.length := by rw [hL]; simp
  obtain ⟨bk, rfl, hb1, hb2, _, hcell⟩ := hread (by omega)
  obtain ⟨q0, q1, q2, q3⟩ := blocksFlat_at A M x
  rw [← hL] at q2
  have z2 := hcell _ _ q2
  have hlt : (A.length : Int) < (L.length : Int) := by omega
  have hge : (0 : Int) ≤ (A.length : Int) := by omega
  have H := Lib.hid h
  have HL := Lib.hid hL
  have HWO := Lib.hid hwo
  have hrlt := h.blk.lt
  generalize A.length = p at *
  clear h hread hcell q0 q1 q2 q3 hwo hL
  go_enter Try.func64, Try.ntmps64
  go_wp2_with fail
  refine (ref_cost x.data (by omega) w).mono ?_
  rintro e w' ⟨rfl, rfl⟩
  go_wp2_with fail
  refine (HWO.out w (Chg.refl _ _)).mono ?_
  rintro e w1 ⟨v1, rfl, hown1, hc1⟩
  have c0' := (hc1.cell (p := ⟨r, 0, none⟩) hrlt (by simp)).trans c0
  have c1' := (hc1.cell (p := ⟨r, 1, none⟩) hrlt (by simp)).trans c1
  have f0' := (hc1.frozen (p := ⟨r, 0, none⟩) hrlt (by simp)).trans f0
  obtain ⟨a1, cap1, rfl, _, _⟩ := blocks_form hown1
  have HO1 := Lib.hid hown1
  have HC1 := Lib.hid hc1
  clear hown1 hc1 c0 c1 f0 z2 HWO
  have hcw1 : Chg (RFoot r rb (.slice (some ⟨bk, 0, none⟩) L.length cap)) w (w1.setCell ⟨r, 0, none⟩ (.slice a1 N.length cap1)) := (HC1.out.mono (by simp)).setCell (fun _ => .inl rfl) _
  have hb1 := H.out.bud.chg HC1.out (by simp)
  have hr1 := H.out.blk.chg HC1.out (by simp)
  have hr2 : Blk (w1.setCell ⟨r, 0, none⟩ (.slice a1 N.length cap1)) r 65 #[.slice a1 N.length cap1, .pointer (some ⟨rb, 0, none⟩)] := by simpa using hr1.set_ 0 (.slice a1 N.length cap1)
  have hset : Chg (fun k => k = r) w1 (w1.setCell ⟨r, 0, none⟩ (.slice a1 N.length cap1)) := Chg.setOwn (Chg.refl _ _) _ _
  have hb2 := hb1.chg hset (H.out.apart.1.symm)
  have ho2 := own_chg (own_base HO1.out) hset (fun k hk e => by
    obtain ⟨cs, hb⟩ := own_typed HO1.out hk
    exact hb.ne_ hr1 (by decide) e)
  have HB2 := Lib.hid hb2
  have HR2 := Lib.hid hr2
  have HO2 := Lib.hid ho2
  have HCW := Lib.hid hcw1
  clear hcw1 hb1 hr1 hr2 hset hb2 ho2
  go_wp2_with fail
  refine (rbud_release rb B 1 (64 + (x.data.size : Int)) _ HB2.out).mono ?_
  rintro e w3 ⟨rfl, hb3, hc3⟩
  have HB3 := Lib.hid hb3
  have HC3 := Lib.hid hc3
  clear hb3 hc3
  go_wp2
  first | go_end0 | refine bodyPost_ret (results_none rfl _ _ _) rfl ?_
  refine ⟨rfl, .slice a1 N.length cap1, ⟨HR2.out.chg HC3.out H.out.apart.1, own_chg HO2.out HC3.out (fun k hk e => ?_), HB3.out⟩, HCW.out.trans HC3.out (fun k _ e => .inr (.inl e)), fun k hk e => ?_⟩
  · obtain ⟨cs, hb⟩ := own_typed HO2.out hk
    exact hb.ne_ HB2.out.blk (by decide) e
  · exact absurd (HO1.out.lt k e).1 (by omega)
end Go.Proofs.Ytafdgncjfiiekaa
