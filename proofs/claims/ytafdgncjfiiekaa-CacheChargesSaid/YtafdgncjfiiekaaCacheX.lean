/-
  The cache and the document's list side by side: what is kept, and charged, is the same.
-/
import Derived.Test.YtafdgncjfiiekaaCacheW
namespace Go.Proofs.Ytafdgncjfiiekaa
open Go.RowKit
set_option linter.unusedVariables false
set_option linter.unusedSimpArgs false

theorem keysFlat_len (L : List Node) : (keysFlat L).length = L.length * 2 := by
  induction L with
  | nil => rfl
  | cons x xs ih => simp [keysFlat] at ih ⊢; omega
theorem keysFlat_at (A M : List Node) (x : Node) : (keysFlat (A ++ x :: M))[A.length * 2]? = some (.int .i64 x.file) ∧ (keysFlat (A ++ x :: M))[A.length * 2 + 1]? = some (.int .i64 x.blk) := by
  have e : keysFlat (A ++ x :: M) = keysFlat A ++ ([.int .i64 x.file, .int .i64 x.blk] ++ keysFlat M) := by simp [keysFlat]
  have hl := keysFlat_len A
  rw [e]
  refine ⟨?_, ?_⟩ <;> (rw [List.getElem?_append_right (by omega)]; rw [hl]; simp)

set_option maxRecDepth 100000 in
set_option maxHeartbeats 4000000 in
theorem lc_same (c g m r rb : Nat) (v : Value) (L : List Node) (B : Bud) (w : World) (h : Both w c g m r rb v L B) :
    Calls Try.prog 35 #[.pointer (some ⟨c, 0, none⟩), .pointer (some ⟨g, 0, none⟩), .pointer (some ⟨r, 0, none⟩)] w fun e w' => e = .returned (.bool true) ∧ Chg (fun _ => False) w w' := by
  have H := Lib.hid h
  have hk := cache_kept c g m L B w h.ca
  have HK := Lib.hid hk
  clear h hk
  go_enter Try.func35, Try.ntmps35
  go_wp2_with fail
  refine HK.out.mono ?_
  rintro e w1 ⟨kv, rfl, hown, hc1⟩
  obtain ⟨a, cap, rfl, hn, hread⟩ := keys_form hown
  have h1 := H.out.same hc1
  obtain ⟨ra, rcap, hv, hn2, r0, r1⟩ := rc_len h1.ra
  have q5 := h1.ra.bud.blk.cell 5
  simp at q5
  rw [hv] at r0
  have hb := fun n => bud_used g B (w1.drewN n) (h1.ca.bud.drewN n)
  have hrb := fun n => rbud_used rb B (w1.drewN n) (h1.ra.bud.chg (S := fun _ => False) (by ((repeat (first | exact Chg.refl _ _ | assumption | refine Chg.drewN ?_ _ | refine Chg.drew ?_ | refine Chg.alloc ?_ _ | refine Chg.setCell ?_ (by simp) _)))) (by simp))
  have hh := fun n => bud_high g B (w1.drewN n) (h1.ca.bud.drewN n)
  have H1 := Lib.hid h1
  have HC1 := Lib.hid hc1
  have HRD := Lib.hid hread
  have HOWN := Lib.hid hown
  have HV := Lib.hid hv
  have HB := Lib.hid hb
  have HRB := Lib.hid hrb
  have HH := Lib.hid hh
  clear hown hc1 hread hv hb hrb hh h1
  go_wp2_with fail
  go_quiet (first
    | (go_at_call 18; exact quiet_same (HB.out _))
    | (go_at_call 44; exact quiet_drew' (HRB.out _))
    | (go_at_call 19; exact quiet_same (HH.out _)))
  go_wp2_with fail
  clear r0 r1 q5
  go_loopw [45] (fun i wr => ∃ A M, L = A ++ M ∧ i = .int .i64 M.length ∧ Chg (fun _ => False) w1 wr) (fun i _ => L.length - (intOf i).toNat)
  case atStart => exact ⟨L, [], by simp, rfl, by ((repeat (first | exact Chg.refl _ _ | assumption | refine Chg.drewN ?_ _ | refine Chg.drew ?_ | refine Chg.alloc ?_ _ | refine Chg.setCell ?_ (by simp) _)))⟩
  case round =>
    obtain ⟨A, M, hL, rfl, hcr⟩ := hrel
    rcases List.eq_nil_or_concat A with rfl | ⟨ys, y, rfl⟩
    · have hge : ¬ ((M.length : Int) < (L.length : Int)) := by rw [hL]; simp
      have hfin := (HC1.out.then hcr)
      clear hL hcr
      go_wp2_with fail
      go_ret
      exact ⟨rfl, hfin⟩
    · rw [List.concat_eq_append, List.append_assoc, List.singleton_append] at hL
      have hll : L.length = ys.length + (M.length + 1) := by rw [hL]; simp
      have hlt : (M.length : Int) < (L.length : Int) := by omega
      have hge0 : (0 : Int) ≤ (M.length : Int) := by omega
      obtain ⟨bk, rfl, hb1, hb2, _, hcell⟩ := HRD.out (by omega)
      have hrev : L.reverse = M.reverse ++ y :: ys.reverse := by rw [hL]; simp
      obtain ⟨k0, k1⟩ := keysFlat_at M.reverse ys.reverse y
      rw [← hrev, List.length_reverse] at k0 k1
      have z0 := (hcr.cell (p := ⟨bk, _, none⟩) hb2 (by simp)).trans (hcell _ _ k0)
      have z1 := (hcr.cell (p := ⟨bk, _, none⟩) hb2 (by simp)).trans (hcell _ _ k1)
      have hr := H1.out.ra.same hcr
      obtain ⟨rbk, rcap', e, hrb2, hlt2, d0, d1, d2, d3⟩ := rc_read hr hL
      rw [HV.out] at e
      injection e with e1 e2 e3
      subst e1 e3
      obtain ⟨_, _, _, _, r0, _⟩ := rc_len hr
      have hrl := hr.blk.lt
      have hwr := hcr.size
      have hbl : bk < wr.heap.size := by omega
      rw [HV.out] at r0
      have hidx : ((L.length : Int) - 1 - (M.length : Int)).toNat = ys.length := by omega
      have hi0 : 0 ≤ (L.length : Int) - 1 - (M.length : Int) := by omega
      have hi1 : (L.length : Int) - 1 - (M.length : Int) < (L.length : Int) := by omega
      have hL2 : L = ys ++ (y :: M) := hL
      have HL := Lib.hid hL2
      have HCR := Lib.hid hcr
      clear hL hL2 hcr hcell k0 k1 hrev hr e2 hll
      go_wp2_with fail
      exact ⟨⟨ys, y :: M, HL.out, by simp, (HCR.out.alloc _).alloc _⟩, by simp [intOf]; omega⟩
end Go.Proofs.Ytafdgncjfiiekaa
