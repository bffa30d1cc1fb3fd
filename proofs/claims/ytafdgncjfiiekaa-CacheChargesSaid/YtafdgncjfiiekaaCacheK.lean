/-
  The cache: the contract of Kept.
-/
import Derived.Test.YtafdgncjfiiekaaCacheI
namespace Go.Proofs.Ytafdgncjfiiekaa
open Go.RowKit
set_option linter.unusedVariables false
set_option linter.unusedSimpArgs false

theorem info_ckey : (Try.prog.info? 48).map (fun i => (i.zero, i.size, i.bytes)) = some (some (.agg #[.int .i64 0, .int .i64 0]), 2, 16) := by kernel_rfl
def keysFlat (L : List Node) : List Value := L.flatMap fun x => [.int .i64 x.file, .int .i64 x.blk]
theorem keysFlat_snoc (L : List Node) (x : Node) : keysFlat (L ++ [x]) = keysFlat L ++ [.int .i64 x.file, .int .i64 x.blk] := by simp [keysFlat]
def KeptPost (w : World) (L : List Node) (e : Ending) (w' : World) : Prop :=
  ∃ v, e = .returned v ∧ w'.ownsRow w.heap.size 48 2 v L.length (keysFlat L.reverse) ∧ Chg (fun _ => False) w w'

set_option maxRecDepth 100000 in
set_option maxHeartbeats 2000000 in
theorem cache_kept (c g m : Nat) (L : List Node) (B : Bud) (w : World) (h : CacheAt w c g m L B) :
    Calls Try.prog 28 #[.pointer (some ⟨c, 0, none⟩)] w (KeptPost w L) := by
  obtain ⟨t1, t2, t3, t4⟩ := h.tot_le
  have hlen := len_of_total (L := L) (by omega)
  obtain ⟨i0, hi, hz0, hz1, hz2⟩ := info_parts info_ckey
  have c0 := h.ring.blk.cell 0
  have c5 := h.ring.blk.cell 5
  simp [cacheCells, ptr] at c0 c5
  obtain ⟨hb, ho, hh, hf⟩ := lastAd_form c L
  rw [hh] at c5
  have HH := Lib.hid hh
  have H := Lib.hid h.ring
  clear h hh hf t1 t2 t3 t4
  go_enter Try.func28, Try.ntmps28
  go_wp2_with fail
  refine (cache_works c g _ c0).mono ?_
  rintro e w' ⟨rfl, rfl⟩
  go_wp2_with fail
  go_loopg [3, 4] L.length (fun k out cur wr => ∃ A R, L = R ++ A ∧ R.length = k ∧ cur = .pointer (some (lastAd R (ring c))) ∧ wr.ownsRow w.heap.size 48 2 out A.length (keysFlat A.reverse) ∧ Chg (fun _ => False) w wr ∧ A.length + R.length ≤ L.length)
  case atStart => exact ⟨[], L, by simp, rfl, by rw [HH.out], ownsRow_none, Chg.refl _ _, by simp⟩
  case round =>
    obtain ⟨A, R, hL, hk, rfl, hown, hc, hDR⟩ := hrel
    clear c0 c5
    have hw : RingAt wr c g m L := H.out.chg (S := fun _ => False) hc (by simp) (by simp)
    obtain ⟨j, hj, hjs⟩ := Option.map_eq_some_iff.1 info_kept
    have hj0 : j.size ≠ 0 := by omega
    rcases List.eq_nil_or_concat R with rfl | ⟨ys, y, rfl⟩
    · have hcmp := run_neq_ptr_same (P := Try.prog) wr ⟨c, 1, none⟩ Try.underlying83 hj
      simp only [List.nil_append] at hL
      have hfin : KeptPost w L (.returned u3) wr := ⟨u3, rfl, by rw [hL]; exact hown, hc⟩
      have HF := Lib.hid hfin
      clear hL hk hown hc hDR hw hj hfin H HH
      simp only [lastAd, ring]
      go_wp2_with fail
      go_ret
      exact HF.out
    · rw [List.concat_eq_append] at *
      have hyL : y ∈ L := by rw [hL]; simp
      rw [hL, List.append_assoc, List.singleton_append] at hw
      have hyb := hw.seg.at_
      have hcmp := run_neq_ptr_other (P := Try.prog) wr (a := ⟨y.id, 0, none⟩) (b := ⟨c, 1, none⟩) Try.underlying83 hj hj0 (by simp) hyb hw.blk
      have y0 := hyb.cell 0
      have y1 := hyb.cell 1
      simp [nodeCells] at y0 y1
      obtain ⟨nb, no, hnh, hnf⟩ := lastAd_form c ys
      rw [List.length_append, List.length_singleton] at hDR hk
      have HL := Lib.hid hL
      have HOWN := Lib.hid hown
      have HC := Lib.hid hc
      have HNH := Lib.hid hnh
      have hs0 := hc.size
      simp only [lastAd_snoc, nad]
      clear hL hown hc hw hj hnh hyb
      go_wp2_with (at_builtin; refine wpList_append_own _ rfl _ _ 52 rfl w.heap.size 48 i0 (.agg #[.int .i64 0, .int .i64 0]) 2 16 Try.underlying52 hi hz0 hz1 hz2 rfl (by decide) _ _ _ rfl (HOWN.out.alloc _) ⟨wr.heap.size, 0, none⟩ 1 1 [.int .i64 y.file, .int .i64 y.blk] rfl rfl ?c1 ?c2 ?c3 ?c4 ?c5 ?_)
      case c1 => exact World.news_of_block (cs := #[.int .i64 y.file, .int .i64 y.blk]) (t := 48) (fr := (0, 0)) (heap_alloc_new wr _)
      case c2 => simp [Value.oneCell']
      case c3 => unfold maxLen; omega
      case c4 => omega
      case c5 => simp; omega
      intro v6 w6 hown6 hgr _
      have hc6 : Chg (fun _ => False) w w6 := (HC.out.alloc _).grown hgr (fun k hk hlt => absurd (ownsRow_block HOWN.out hk) (by omega))
      have hw6 : RingAt w6 c g m L := H.out.chg (S := fun _ => False) hc6 (by simp) (by simp)
      have y4 : w6.cell? ⟨y.id, 4, none⟩ = some (.pointer (some ⟨nb, no, none⟩)) := by
        rw [HL.out, List.append_assoc, List.singleton_append] at hw6
        have := hw6.seg.at_.cell 4
        simp [nodeCells] at this
        rw [HNH.out] at this
        exact this
      have hfinA : Hid (L = ys ++ (y :: A)) := by show _ = _; rw [HL.out]; simp
      have hfinO : w6.ownsRow w.heap.size 48 2 v6 (y :: A).length (keysFlat (y :: A).reverse) := by
        rw [List.reverse_cons, keysFlat_snoc, List.length_cons]
        exact hown6
      clear hgr hown6 hw6 y0 y1 hcmp
      go_wp2_with fail
      go_roundg ys.length
      case measure => omega
      case rel => exact ⟨y :: A, ys, hfinA.out, rfl, by rw [HNH.out], hfinO, hc6, by rw [List.length_cons]; omega⟩

/-- A cache that works is needed: of a nil one, or one without a budget, nothing is kept. -/
theorem works_nil (w : World) : Calls Try.prog 45 #[.pointer none] w fun e w' => e = .returned (.bool false) ∧ w = w' := by
  go_enter Try.func45, Try.ntmps45
  go_wp2
  go_ret
  exact ⟨rfl, rfl⟩
theorem works_no (c : Nat) (w : World) (h : w.cell? ⟨c, 0, none⟩ = some (.pointer none)) : Calls Try.prog 45 #[.pointer (some ⟨c, 0, none⟩)] w fun e w' => e = .returned (.bool false) ∧ w = w' := by
  go_enter Try.func45, Try.ntmps45
  go_wp2
  go_ret
  exact ⟨rfl, rfl⟩
end Go.Proofs.Ytafdgncjfiiekaa
