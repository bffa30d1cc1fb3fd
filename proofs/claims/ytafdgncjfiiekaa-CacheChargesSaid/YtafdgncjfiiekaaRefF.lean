/-
  The document's list of blocks: Shrink, Get, Pin, Put.
-/
import Derived.Test.YtafdgncjfiiekaaRefE
namespace Go.Proofs.Ytafdgncjfiiekaa
open Go.RowKit
set_option linter.unusedVariables false
set_option linter.unusedSimpArgs false

set_option maxRecDepth 100000 in
set_option maxHeartbeats 4000000 in
theorem ref_shrink_yes (r rb : Nat) (v : Value) (L : List Node) (B : Bud) (n : Int) (hsm : LSmall L) (htot : total L ≤ 1099511627776) (w : World) (h : RCacheAt w r rb 0 v L B) (hyes : n ≤ B.l - B.u + unp L) :
    Calls Try.prog 56 #[.pointer (some ⟨r, 0, none⟩), .int .i64 n] w fun e w' => e = .returned (.bool true) ∧ RStep r rb v w w' (rsh n B L).1 (rsh n B L).2 := by
  have hul := unp_le L
  have hg := h.bud.good
  have l0 := hg.l0; have l1 := hg.l1; have uh := hg.uh; have hl := hg.hl
  have u0 : 0 ≤ B.u := by have := hg.u0; have := hg.a0; have := hg.b0; have := hg.c0; have := hg.d0; omega
  obtain ⟨a, cap, rfl, hn, c0, c1⟩ := rc_len h
  have H := Lib.hid h
  have HS := Lib.hid hsm
  clear h hsm hg
  go_enter Try.func56, Try.ntmps56
  go_wp2_with fail
  refine (ref_left r rb 0 _ L B w H.out).mono ?_
  rintro e w1 ⟨rfl, m1, rfl⟩
  go_wp2_with fail
  go_loop [5, 6] (fun t i => ∃ A R, L = A ++ R ∧ i = .int .i64 A.length ∧ ∃ m, t = .int .i64 m ∧ m + unp R = B.l - B.u + unp L ∧ 0 ≤ m) (fun _ i => L.length - (intOf i).toNat)
  case atStart => exact ⟨[], L, rfl, rfl, _, rfl, rfl, by omega⟩
  case round =>
    obtain ⟨A, R, hL, rfl, m, rfl, hm, hm0⟩ := hrel
    cases R with
    | nil =>
      have hge : ¬ ((A.length : Int) < (L.length : Int)) := by rw [hL]; simp
      have hmn : ¬ (m < n) := by simp [unp] at hm; omega
      clear hL hm c0 c1
      have hst0 : RStep r rb (.slice a L.length cap) w (w.drewN m1) L B := RStep.same (H.out.same ((Chg.refl _ _).drewN _)) ((Chg.refl _ _).drewN _)
      have hcl := (H.out.blk.drewN m1).cell 0
      simp at hcl
      have HST0 := Lib.hid hst0
      clear hst0
      go_wp2_with fail
      clear hge hmn hcl
      go_loopg [8] L.length (fun k i wr => ∃ A R Bk, i = .int .i64 A.length ∧ R.length = k ∧ RStep r rb (.slice a L.length cap) w wr (A ++ R) Bk ∧ A ++ (rsh n Bk R).1 = (rsh n B L).1 ∧ (rsh n Bk R).2 = (rsh n B L).2 ∧ LSmall (A ++ R))
      case atStart => exact ⟨[], L, B, rfl, rfl, HST0.out, rfl, rfl, HS.out⟩
      case round =>
        obtain ⟨A, R, Bk, rfl, hk, ⟨v1, hR, hc1, hv1⟩, hL1, hB1, hsm1⟩ := hrel
        have hfin : (R = [] ∨ n ≤ Bk.l - Bk.u) → RStep r rb (.slice a L.length cap) w wr (rsh n B L).1 (rsh n B L).2 := by
          intro hor
          rw [← hL1, ← hB1]
          have e : rsh n Bk R = (R, Bk) := by
            rcases hor with e | e
            · subst e; rfl
            · exact rsh_done R e
          rw [e]
          exact ⟨_, hR, hc1, hv1⟩
        cases R with
        | nil =>
          simp only [List.append_nil] at hR hsm1
          obtain ⟨a', cap', rfl, hn', c0, c1⟩ := rc_len hR
          have hfin' := hfin (.inl rfl)
          have HF := Lib.hid hfin'
          have hge : ¬ ((A.length : Int) < (A.length : Int)) := by omega
          clear hk hR hc1 hv1 hL1 hB1 hsm1 hfin hfin' H HS HST0
          go_wp2_with fail
          go_ret
          exact ⟨rfl, HF.out⟩
        | cons x M =>
          obtain ⟨N, hN⟩ : ∃ N, N = A ++ x :: M := ⟨_, rfl⟩
          rw [← hN] at hR hsm1
          obtain ⟨bk, cap', rfl, hbk, hlt, z0, z1, z2, z3⟩ := rc_read hR hN
          obtain ⟨_, _, _, hn', c0, c1⟩ := rc_len hR
          have hge : (0 : Int) ≤ (A.length : Int) := by omega
          have HR := Lib.hid hR
          have HC1 := Lib.hid hc1
          have HV1 := Lib.hid hv1
          have HSM := Lib.hid hsm1
          have HN := Lib.hid hN
          have HK := Lib.hid hk
          have HL1 := Lib.hid hL1
          have HB1 := Lib.hid hB1
          have HFIN := Lib.hid hfin
          clear hR hc1 hv1 hsm1 hN hk hL1 hB1 hfin
          go_wp2_with fail
          refine (ref_left r rb 0 _ N Bk wr HR.out).mono ?_
          rintro e w2 ⟨rfl, m2, rfl⟩
          have hfoot := HR.out.lts
          have c0' : (wr.drewN m2).cell? ⟨r, 0, none⟩ = some (.slice (some ⟨bk, 0, none⟩) N.length cap') := c0
          have z3' : (wr.drewN m2).cell? ⟨bk, A.length * 4 + 3, none⟩ = some (.int .i64 x.pins) := z3
          clear hfoot z0 z1 z2
          by_cases hd : n ≤ Bk.l - Bk.u
          · have HF := Lib.hid (HFIN.out (.inr hd))
            go_wp2_with fail
            go_ret
            obtain ⟨v3, hR3, hc3, hv3⟩ := HF.out
            exact ⟨rfl, v3, hR3.same ((Chg.refl _ _).drewN _), hc3.drewN _, hv3⟩
          · have hd' : ¬ (Bk.l - Bk.u ≥ n) := by omega
            by_cases hp : x.pins = 0
            · have hrsh : rsh n Bk (x :: M) = rsh n (Bk.release 1 (costOf x)).2 M := by rw [rsh, if_neg hd, if_pos hp]
              have HRSH := Lib.hid hrsh
              rw [hp] at z3 z3'
              clear hp hrsh
              go_wp2_with fail
              refine (ref_drop1 r rb _ N A M x Bk HN.out HSM.out.1 (HSM.out.2 x (by rw [HN.out]; simp)) _ (HR.out.same ((Chg.refl _ _).drewN m2))).mono ?_
              rintro e w3 ⟨rfl, hst⟩
              have hst2 := RStep.trans (HC1.out.drewN m2) HV1.out hst
              have HST2 := Lib.hid hst2
              clear hst hst2 c0 c0' z3 z3'
              go_wp2_with fail
              go_roundg M.length
              case measure => have := HK.out; simp at this; omega
              case rel =>
                exact ⟨A, M, _, rfl, rfl, HST2.out, by rw [← HL1.out, HRSH.out], by rw [← HB1.out, HRSH.out], HSM.out.sub (by rw [HN.out]; simp)⟩
            · have hrsh : rsh n Bk (x :: M) = (x :: (rsh n Bk M).1, (rsh n Bk M).2) := by rw [rsh, if_neg hd, if_neg hp]
              have HRSH := Lib.hid hrsh
              clear hrsh
              go_wp2_with fail
              go_roundg M.length
              case measure => have := HK.out; simp at this; omega
              case rel =>
                refine ⟨A ++ [x], M, Bk, by simp, rfl, ⟨_, by rw [List.append_assoc, List.singleton_append, ← HN.out]; exact HR.out.same ((Chg.refl _ _).drewN _), HC1.out.drewN _, HV1.out⟩, ?_, by rw [← HB1.out, HRSH.out], by rw [List.append_assoc, List.singleton_append, ← HN.out]; exact HSM.out⟩
                rw [← HL1.out, HRSH.out]; simp
    | cons x M =>
      obtain ⟨bk, cap', e, hbk, hlt, z0, z1, z2, z3⟩ := rc_read H.out hL
      injection e with e1 e2 e3
      subst e1 e3
      have hx := HS.out.2 x (by rw [hL]; simp)
      have hu := unp_le M
      have hge : (0 : Int) ≤ (A.length : Int) := by omega
      have hcx := costOf_pos x
      have hmx : m + unp (x :: M) = B.l - B.u + unp L := hm
      simp only [unp] at hmx
      have hL2 : L = (A ++ [x]) ++ M := by rw [hL]; simp
      have hle : A.length ≤ L.length := by omega
      have HL := Lib.hid hL2
      clear hL hm hL2 e2
      by_cases hp : x.pins = 0
      · rw [if_pos hp] at hmx
        have hb1 : m + (64 + (x.data.size : Int)) + unp M = B.l - B.u + unp L := by unfold costOf at hmx; omega
        have HB1 := Lib.hid hb1
        have hb2 : m + (64 + (x.data.size : Int)) ≤ 9223372036854775807 := by omega
        rw [hp] at z3
        clear hmx hp hb1 hcx
        go_wp2_with fail
        refine (ref_cost x.data (by omega) _).mono ?_
        rintro e w' ⟨rfl, rfl⟩
        go_wp2_with fail
        go_round
        case rel => exact ⟨A ++ [x], M, HL.out, by simp, _, rfl, HB1.out, by omega⟩
        case measure => simp [intOf]; omega
      · rw [if_neg hp] at hmx
        have hb1 : m + unp M = B.l - B.u + unp L := by omega
        have HB1 := Lib.hid hb1
        clear hmx hb1 hcx
        go_wp2_with fail
        go_round
        case rel => exact ⟨A ++ [x], M, HL.out, by simp, _, rfl, HB1.out, by omega⟩
        case measure => simp [intOf]; omega
end Go.Proofs.Ytafdgncjfiiekaa
