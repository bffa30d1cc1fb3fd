/-
  The walk of CachePlays.
-/
import Derived.Test.YtafdgncjfiiekaaCacheX
namespace Go.Proofs.Ytafdgncjfiiekaa
open Go.RowKit
set_option linter.unusedVariables false
set_option linter.unusedSimpArgs false

/-- Both at work, all of them new since w. -/
def Works (w wr : World) (c g m r rb : Nat) (p : Nat) : Prop :=
  ∃ v L B, Both wr c g m r rb v L B ∧ (∀ k, BFoot c g m r rb v L k → w.heap.size ≤ k) ∧ Chg (fun _ => False) w wr ∧ Pins p L
theorem both_start {w : World} {c g m r rb : Nat} {l : Int} (hc : CacheAt w c g m [] (Bud.start l)) (hb : RBudAt w rb (Bud.start l)) (hr : Blk w r 65 #[.slice none 0 0, .pointer (some ⟨rb, 0, none⟩)]) : Both w c g m r rb (.slice none 0 0) [] (Bud.start l) :=
  ⟨hc, hr, ownsRow_none, hb⟩
theorem works_step {w wr w2 : World} {c g m r rb p : Nat} {v : Value} {L L' : List Node} {B' : Bud} (hge : ∀ k, BFoot c g m r rb v L k → w.heap.size ≤ k) (hc : Chg (fun _ => False) w wr) (hst : BStep c g m r rb v L wr w2 L' B') (hp : Pins (p + 1) L') : Works w w2 c g m r rb (p + 1) := by
  obtain ⟨v', hB, hc2, hv⟩ := hst
  refine ⟨v', L', B', hB, fun k hk => ?_, hc.trans hc2 (fun k hk e => by have := hge k e; omega), hp⟩
  by_cases hlt : k < wr.heap.size
  · exact hge k (hv k hlt hk)
  · have := hc.size; omega

set_option maxRecDepth 100000 in
set_option maxHeartbeats 4000000 in
theorem cache_plays (l : Int) (A : Option Addr) (n c : Nat) (D F K N : Nat → Int) (S : Nat → ByteArray) (hF : ∀ i, In64 (F i)) (hK : ∀ i, In64 (K i)) (hN : ∀ i, In64 (N i)) (hS : ∀ i, (S i).size ≤ 140737488355328) (w : World) (hn : n ≤ 9223372036854775807) (hnc : n ≤ c)
    (hs : Rec w w.heap.size 5 A n (actRow D F K N S)) :
    Calls Try.prog 11 #[.int .i64 l, .slice A n c] w fun e w' => e = .returned (.bool true) ∧ Chg (fun _ => False) w w' := by
  have HR := Lib.hid hs
  have HF := Lib.hid hF
  have HK := Lib.hid hK
  have HN := Lib.hid hN
  have HS := Lib.hid hS
  clear hs hF hK hN hS
  go_enter Try.func11, Try.ntmps11
  go_wp2_with fail
  refine (bud_new l w).mono ?_
  rintro e w1 ⟨rfl, hb1, hs1, hc1⟩
  have HS1 := Lib.hid hs1
  clear hs1
  go_wp2_with fail
  refine (cache_new w.heap.size (Bud.start l) rfl w1 hb1).mono ?_
  rintro e w2 ⟨rfl, h2, hc2, hs2⟩
  rw [HS1.out] at h2 ⊢
  have hcw2 := hc1.then hc2
  have hs2' : w2.heap.size = w.heap.size + 3 := by rw [hs2, HS1.out]
  have HS2 := Lib.hid hs2'
  clear hs2 hc1 hc2 hb1 hs2'
  go_wp2_with fail
  refine (rbud_new l w2).mono ?_
  rintro e w3 ⟨rfl, hb3, hs3, hc3⟩
  have h3 := h2.same hc3
  have hcw3 := hcw2.then hc3
  rw [HS2.out] at hb3 hs3 ⊢
  have HS3 := Lib.hid hs3
  have H3 := Lib.hid h3
  have HB3 := Lib.hid hb3
  have HCW3 := Lib.hid hcw3
  clear hs3 h3 hb3 hcw2 hcw3 hc3 h2
  go_wp2_with fail
  obtain ⟨W4, hW4⟩ : ∃ W4, W4 = w3.alloc (.cells #[.slice none 0 0, .pointer (some ⟨w.heap.size + 3, 0, none⟩)] 65) := ⟨_, rfl⟩
  have h4 : Both W4 (w.heap.size + 1 + 1) w.heap.size (w.heap.size + 1) w3.heap.size (w.heap.size + 3) (.slice none 0 0) [] (Bud.start l) := by
    rw [hW4]
    exact both_start (H3.out.same (by ((repeat (first | exact Chg.refl _ _ | assumption | refine Chg.drewN ?_ _ | refine Chg.drew ?_ | refine Chg.alloc ?_ _ | refine Chg.setCell ?_ (by simp) _))))) (HB3.out.chg (S := fun _ => False) (by ((repeat (first | exact Chg.refl _ _ | assumption | refine Chg.drewN ?_ _ | refine Chg.drew ?_ | refine Chg.alloc ?_ _ | refine Chg.setCell ?_ (by simp) _)))) (by simp)) (Blk.new w3 _ _)
  have hcw4 : Chg (fun _ => False) w W4 := by rw [hW4]; exact HCW3.out.alloc _
  have hge4 : ∀ k, BFoot (w.heap.size + 1 + 1) w.heap.size (w.heap.size + 1) w3.heap.size (w.heap.size + 3) (.slice none 0 0) [] k → w.heap.size ≤ k := by
    have := HS3.out
    rintro k (e | e)
    · exact foot_ge (by omega) (Nat.le_refl _) (by omega) (by simp) e
    · rcases e with e | e | e
      · omega
      · omega
      · simp [Value.ownBlock] at e
  rw [← hW4]
  generalize w.heap.size + 1 + 1 = cc at *
  generalize w.heap.size + 1 = mm at *
  generalize w.heap.size + 3 = rr at *
  generalize w3.heap.size = rc at *
  have H4 := Lib.hid h4
  have HG4 := Lib.hid hge4
  have HC4 := Lib.hid hcw4
  clear h4 hge4 hcw4 hW4 HB3 H3 HS3 HCW3
  refine (cache_wakes W4).mono ?_
  rintro e w5 ⟨rfl, hc5⟩
  have HC5 := Lib.hid hc5
  clear hc5
  go_wp2_with fail
  refine (lc_same _ _ _ _ _ _ _ _ w5 (H4.out.same HC5.out)).mono ?_
  rintro e w6 ⟨rfl, hc6⟩
  have hw6 : Works w w6 cc w.heap.size mm rc rr 0 := ⟨_, _, _, (H4.out.same HC5.out).same hc6, HG4.out, (HC4.out.then HC5.out).then hc6, by simp [Pins]⟩
  have HW6 := Lib.hid hw6
  clear hc6 hw6
  go_wp2_with fail
  all_goals (try simp only [show max (100 : Int) 0 = 100 from rfl])
  all_goals obtain ⟨q, hq1, hq2, hq3⟩ : ∃ q : Nat, q ≤ n ∧ q ≤ 100 ∧ (q = n ∨ q = 100) := ⟨min n 100, by omega, by omega, by omega⟩
  all_goals
    go_loopw [33] (fun i wr => ∃ k : Nat, k ≤ q ∧ i = .int .i64 k ∧ Works w wr cc w.heap.size mm rc rr k) (fun i _ => q - (intOf i).toNat)
    case atStart => exact ⟨0, by omega, rfl, HW6.out⟩
    case round =>
      obtain ⟨k, hk, rfl, v, L, B, hB, hge, hcc, hp⟩ := hrel
      by_cases hlt : k < q
      · obtain ⟨b, off, rfl, hbB, hcell⟩ := HR.out (by omega)
        have x0 := (hcc.cell (p := ⟨b, _, none⟩) hbB (by simp)).trans (hcell k (by omega) 0 (by omega))
        have x1 := (hcc.cell (p := ⟨b, _, none⟩) hbB (by simp)).trans (hcell k (by omega) 1 (by omega))
        have x2 := (hcc.cell (p := ⟨b, _, none⟩) hbB (by simp)).trans (hcell k (by omega) 2 (by omega))
        have x3 := (hcc.cell (p := ⟨b, _, none⟩) hbB (by simp)).trans (hcell k (by omega) 3 (by omega))
        have x4 := (hcc.cell (p := ⟨b, _, none⟩) hbB (by simp)).trans (hcell k (by omega) 4 (by omega))
        simp only [Nat.add_zero, actRow] at x0 x1 x2 x3 x4
        have hk0 : (0 : Int) ≤ (k : Int) := by omega
        have hk1 : (k : Int) < (n : Int) := by omega
        have hk2 : (k : Int) < 100 := by omega
        have HQ := Lib.hid hq3
        have HB := Lib.hid hB
        have HGE := Lib.hid hge
        have HCC := Lib.hid hcc
        have HP := Lib.hid hp
        clear hcell HR hB hge hcc hp hq3
        go_wp2_with fail
        clear x0 x1 x2 x3 x4
        have hlts := HB.out.lts
        have HLT := Lib.hid hlts
        have hds : (S k).size ≤ 9223372036854775000 := by have := HS.out k; omega
        clear hlts
        go_region_held3 (fun w' => w'.cell? ⟨wr.heap.size, 0, none⟩ = some (.int .i64 (D k)) ∧ w'.cell? ⟨wr.heap.size, 1, none⟩ = some (.int .i64 (F k)) ∧ w'.cell? ⟨wr.heap.size, 2, none⟩ = some (.int .i64 (K k)) ∧ w'.cell? ⟨wr.heap.size, 3, none⟩ = some (.string (S k)) ∧ w'.cell? ⟨wr.heap.size, 4, none⟩ = some (.int .i64 (N k)))
          (first | (go_keep; done) | (go_split_ands; refine ⟨?_, ?_, ?_, ?_, ?_⟩ <;> (first | (rw [hc8.cell (by have := hc7.size; simp at this ⊢ <;> omega) (by simp)]; assumption) | (rw [hc7.cell (by simp) (fun hf => by have := HLT.out _ hf; dsimp only at this; omega)]; assumption))))
          (first
            | (go_at_call 36; refine (lc_act cc w.heap.size mm rc rr v L B (D k) (F k) (K k) (N k) (S k) k (HF.out k) (HK.out k) (HN.out k) (HS.out k) HP.out (by omega) _ (HB.out.same (by ((repeat (first | exact Chg.refl _ _ | assumption | refine Chg.drewN ?_ _ | refine Chg.drew ?_ | refine Chg.alloc ?_ _ | refine Chg.setCell ?_ (by simp) _)))))).mono ?_; rintro e w7 ⟨rfl, L7, B7, ⟨v7, hB7, hc7, hv7⟩, hp7, _, _⟩)
            | (go_at_call 35; refine (lc_same _ _ _ _ _ v7 L7 B7 _ (hB7.same (by ((repeat (first | exact Chg.refl _ _ | assumption | refine Chg.drewN ?_ _ | refine Chg.drew ?_ | refine Chg.alloc ?_ _ | refine Chg.setCell ?_ (by simp) _)))))).mono ?_; rintro e w8 ⟨rfl, hc8⟩)
            | (go_at_call 31; refine (cache_cost (S k) hds _).mono ?_; rintro e w' ⟨rfl, rfl⟩)
            | (go_at_call 37; refine (ref_cost (S k) hds _).mono ?_; rintro e w' ⟨rfl, rfl⟩))
        have hfin := fun W (hW : Chg (fun _ => False) w8 W) => works_step HGE.out HCC.out (((BStep.first (w := wr) (by ((repeat (first | exact Chg.refl _ _ | assumption | refine Chg.drewN ?_ _ | refine Chg.drew ?_ | refine Chg.alloc ?_ _ | refine Chg.setCell ?_ (by simp) _)))) ⟨v7, hB7, hc7, hv7⟩).last (Chg.then (by ((repeat (first | exact Chg.refl _ _ | assumption | refine Chg.drewN ?_ _ | refine Chg.drew ?_ | refine Chg.alloc ?_ _ | refine Chg.setCell ?_ (by simp) _)))) hc8)).last hW) hp7
        have HFIN := Lib.hid hfin
        clear hfin hB7 hc7 hv7 hp7 hc8
        go_wp2_with fail
        refine ⟨⟨k + 1, by omega, by go_num, HFIN.out _ (by ((repeat (first | exact Chg.refl _ _ | assumption | refine Chg.drewN ?_ _ | refine Chg.drew ?_ | refine Chg.alloc ?_ _ | refine Chg.setCell ?_ (by simp) _))))⟩, by simp [intOf]; omega⟩
      · have HC := Lib.hid hcc
        clear hcc hB hge hp HR
        have hge : ¬ ((k : Int) < (q : Int)) := by omega
        first
          | (have hqe : q = n := by omega
             have hge2 : ¬ ((k : Int) < (n : Int)) := by omega
             clear hq3 hqe
             go_wp2_with fail)
          | (have hge2 : ¬ ((k : Int) < 100) := by omega
             clear hq3
             go_wp2_with fail)
        go_ret
        exact ⟨rfl, HC.out⟩
end Go.Proofs.Ytafdgncjfiiekaa
