/-
  Two logs on one disk, plain; the walk of WalApart.
-/
import Derived.Test.YtjfbcjmnjlehaaaDoorWalL
import Derived.Deep.DeepCutAuto
import Derived.StillTailTactics
namespace Go.Proofs.YtjfbcjmnjlehaaaDoor
open Go.RowKit
set_option linter.unusedVariables false
set_option linter.unusedSimpArgs false

theorem look_drop_same (n : ByteArray) : ∀ l : Names, look (dropN n l) n = none
  | [] => rfl
  | p :: r => by
    have ih := look_drop_same n r
    unfold dropN at ih ⊢
    rw [List.filter_cons]
    by_cases h : p.1 = n
    · simp only [h, ne_eq, not_true_eq_false, decide_false, Bool.false_eq_true, if_false]
      exact ih
    · simp only [ne_eq, h, not_false_eq_true, decide_true, if_true]
      rw [look_cons, if_neg h]
      exact ih
theorem look_drop_ne {n m : ByteArray} (hne : n ≠ m) : ∀ l : Names, look (dropN n l) m = look l m
  | [] => rfl
  | p :: r => by
    have ih := look_drop_ne hne r
    unfold dropN at ih ⊢
    rw [List.filter_cons, look_cons]
    by_cases h : p.1 = n
    · simp only [h, ne_eq, not_true_eq_false, decide_false, Bool.false_eq_true, if_false]
      rw [if_neg hne]
      exact ih
    · simp only [ne_eq, h, not_false_eq_true, decide_true, if_true]
      rw [look_cons, ih]
def removed (D : DiskV) (n : ByteArray) : DiskV := syncDirA (removeA n D)
theorem remove_calm {D : DiskV} {n : ByteArray} {i : Nat} (hc : Calm D) (h : look D.names n = some i) : removeW D n = (0, removed D n) := by
  have h1 : removeD D n = (0, removeA n D) := by
    unfold removeD
    rw [hc.off, h]
    simp only [Bool.false_eq_true, if_false]
    exact change_calm hc _ _
  have hl : (removeA n D).names.length ≤ D.names.length := by
    show (dropN n D.names).length ≤ _
    exact List.length_filter_le _ _
  have hc2 : Calm (removeA n D) := ⟨hc.off, hc.cut, hc.full, hc.room, Nat.le_trans hl hc.few⟩
  have h2 : syncDirD (removeA n D) = (0, removed D n) := by
    unfold syncDirD
    rw [hc2.off]
    simp only [Bool.false_eq_true, if_false]
    exact change_calm hc2 _ _
  unfold removeW
  rw [h1]
  simp only [ne_eq, not_true_eq_false, if_false]
  exact h2
theorem removed_calm {D : DiskV} (hc : Calm D) (n : ByteArray) : Calm (removed D n) :=
  ⟨hc.off, hc.cut, hc.full, hc.room, Nat.le_trans (show (dropN n D.names).length ≤ D.names.length from List.length_filter_le _ _) hc.few⟩
theorem removed_other {D : DiskV} {n m : ByteArray} {j : Nat} {l : List ByteArray} (h : Holds D m j l) (hne : n ≠ m) : Holds (removed D n) m j l := by
  obtain ⟨h1, f, hf, hd⟩ := h
  exact ⟨(look_drop_ne hne D.names).trans h1, f, hf, hd⟩
theorem removed_gone (D : DiskV) (hc : Calm D) (n : ByteArray) : readD (removed D n) n = (⟨#[]⟩, 10) := by
  unfold readD
  rw [(removed_calm hc n).off, show look (removed D n).names n = none from look_drop_same n D.names]
  rfl
def bk2 : DiskV := (createW bk1 (logN 2)).2
theorem bk2_res : (createW bk1 (logN 2)).1 = 0 ∧ bk2.off = false ∧ bk2.cutL = 0 ∧ bk2.fullL = 0 ∧ bk2.room = 1099511627776 ∧ bk2.names = [(logN 1, 0), (logN 2, 1)] ∧ (bk2.files.map fun f => f.data) = [⟨#[]⟩, ⟨#[]⟩] := by
  refine ⟨?_, ?_, ?_, ?_, ?_, ?_, ?_⟩ <;> decide +kernel
theorem log_ne : logN 1 ≠ logN 2 := by decide +kernel
theorem log_ne' : logN 2 ≠ logN 1 := by decide +kernel
theorem bk2_calm : Calm bk2 := ⟨bk2_res.2.1, bk2_res.2.2.1, bk2_res.2.2.2.1, bk2_res.2.2.2.2.1, by rw [bk2_res.2.2.2.2.2.1]; decide⟩
theorem empty_at {D : DiskV} {l : List ByteArray} (h : (D.files.map fun f => f.data) = l) (i : Nat) (hi : l[i]? = some ⟨#[]⟩) : ∃ f, D.files[i]? = some f ∧ f.data.data.toList = frasB (bl []) := by
  rw [← h, List.getElem?_map] at hi
  cases hf : D.files[i]? with
  | none => rw [hf] at hi; cases hi
  | some f =>
    rw [hf] at hi
    have : f.data = ⟨#[]⟩ := by simpa using hi
    exact ⟨f, rfl, by rw [this]; rfl⟩
theorem bk2_one : Holds bk2 (logN 1) 0 [] := ⟨by rw [bk2_res.2.2.2.2.2.1]; rfl, empty_at bk2_res.2.2.2.2.2.2 0 rfl⟩
theorem bk2_two : Holds bk2 (logN 2) 1 [] := ⟨by rw [bk2_res.2.2.2.2.2.1, look_cons, if_neg log_ne]; rfl, empty_at bk2_res.2.2.2.2.2.2 1 rfl⟩
theorem run_preS (A : Option Addr) (n c q : Nat) (e : min (n : Int) 10 = (q : Int)) (hq : q ≤ c) (w : World) : (Instr.slice 22 (.slice A n c) none (some (.int .i64 (min (n : Int) 10))) none).run Tryd.prog w = .ok (.slice A q c) w := by
  have h2 : (q : Int) ≤ (c : Int) := by omega
  have hs : (sizeOf (Tryd.prog.elem 22)).run Tryd.prog w = .ok 1 w := by kernel_rfl
  rw [e, run_slice_h w 22 A n c (by kernel_rfl) .i64 (q : Int) (by omega) h2, hs]
  cases A with
  | none => simp [Result.andThen, sliced]
  | some v =>
    have : v.add 0 = v := by
      obtain ⟨b, o, s⟩ := v
      cases s <;> simp [Addr.add]
    simp [Result.andThen, sliced, this]
set_option maxRecDepth 100000 in
set_option maxHeartbeats 4000000 in
theorem wal_apart (A1 A2 : Option Addr) (n1 c1 n2 c2 : Nat) (S1 S2 : Nat → ByteArray) (w : World) (hn1 : n1 ≤ c1) (hc1 : c1 ≤ maxLen) (hS1 : StrsAt w A1 n1 S1) (hsz1 : ∀ i, (S1 i).size ≤ maxLen) (hn2 : n2 ≤ c2) (hc2 : c2 ≤ maxLen) (hS2 : StrsAt w A2 n2 S2) (hsz2 : ∀ i, (S2 i).size ≤ maxLen) :
    Calls Tryd.prog 3 #[.slice A1 n1 c1, .slice A2 n2 c2] w fun e w' => e = .returned (.bool true) ∧ Chg (fun _ => False) w w' := by
  unfold maxLen at hc1 hsz1 hc2 hsz2
  have hnew := st_new 1099511627776 (by omega) w
  obtain ⟨q1, hq1, hq1m, hq1n⟩ : ∃ q : Nat, q ≤ n1 ∧ q ≤ 10 ∧ min (n1 : Int) 10 = (q : Int) := ⟨min n1 10, by omega, by omega, by omega⟩
  obtain ⟨q2, hq2, hq2m, hq2n⟩ : ∃ q : Nat, q ≤ n2 ∧ q ≤ 10 ∧ min (n2 : Int) 10 = (q : Int) := ⟨min n2 10, by omega, by omega, by omega⟩
  have hp1 := run_preS A1 n1 c1 q1 hq1n (by omega)
  have hp2 := run_preS A2 n2 c2 q2 hq2n (by omega)
  have HNEW := Lib.hid hnew
  have HS1 := Lib.hid hS1
  have HSZ1 := Lib.hid hsz1
  have HS2 := Lib.hid hS2
  have HSZ2 := Lib.hid hsz2
  have HP1 := Lib.hid hp1
  have HP2 := Lib.hid hp2
  clear hnew hS1 hsz1 hS2 hsz2 hq1n hq2n hp1 hp2
  go_enter Tryd.func3, Tryd.ntmps3
  go_wp2_with fail
  refine HNEW.out.mono ?_
  rintro e w1 ⟨rfl, hd1⟩
  have hd1 := DY.of hd1
  obtain ⟨d, hd⟩ : ∃ d, w.heap.size + 2 = d := ⟨_, rfl⟩
  rw [hd] at hd1 ⊢
  have H1 := Lib.hid hd1
  clear hd hd1
  go_wp2_with fail
  refine (wal_wakes _).mono ?_
  rintro e w2 ⟨rfl, hcw2⟩
  have hcr := wal_create 1 0 (by omega) d (startD 1099511627776) _ w w2 (p_bsm_start _) (by omega) (H1.out.same hcw2)
  rw [show ((1 : Nat) : Int) = 1 from rfl] at hcr
  have HCR := Lib.hid hcr
  clear hcr hcw2
  go_wp2_with fail
  refine HCR.out.mono ?_
  rintro e w3 ⟨rfl, hd3, _⟩
  rw [bk_res.1]
  have hcr := wal_create 2 2 (by omega) d bk1 _ w w3 (psm_create _ (p_bsm_start _)) (by omega) hd3
  rw [show ((2 : Nat) : Int) = 2 from rfl] at hcr
  have HCR2 := Lib.hid hcr
  clear hcr hd3
  go_wp2_with fail
  refine HCR2.out.mono ?_
  rintro e w4 ⟨rfl, hd4, _⟩
  rw [bk2_res.1]
  have H4 := Lib.hid (show DY w w4 d bk2 (fun _ => False) from hd4)
  clear hd4
  go_upto_region 4 with fail
  go_cut [0, 1] (fun s t wx => s = .slice A1 q1 c1 ∧ t = .slice A2 q2 c2 ∧ ∃ m, w4.drewN m = wx)
  case first =>
    have hp1 := HP1.out
    have hp2 := HP2.out
    go_quiet (fail)
    go_wp2_with fail
    go_meet
    exact ⟨rfl, rfl, _, rfl⟩
  case rest =>
    obtain ⟨rfl, rfl, m, rfl⟩ := hcut
    have hmin : ∀ (s : ByteArray) (w : World), (Instr.slice 9 (.string s) none (some (.int .i64 (min (s.size : Int) 500))) none).run Tryd.prog w = .ok (.string (cutB 500 s)) w := fun s w => run_cutB 500 s w
    go_wp2_with fail
    go_loopw [6] (fun i wr => ∃ (k : Nat) (D : DiskV), i = .int .i64 k ∧ k ≤ 10 ∧ Calm D ∧ Holds D (logN 1) 0 (pre 500 S1 (min k q1)) ∧ Holds D (logN 2) 1 (pre 500 S2 (min k q2)) ∧ PSm (4 * k + 4) D ∧ DY w wr d D (fun _ => False)) (fun i _ => 11 - (intOf i).toNat)
    case atStart => exact ⟨0, bk2, rfl, by omega, bk2_calm, by rw [Nat.zero_min]; exact bk2_one, by rw [Nat.zero_min]; exact bk2_two, psm_create _ (psm_create _ (p_bsm_start _)), H4.out.same ((Chg.refl _ _).drewN _)⟩
    case round =>
      obtain ⟨k, D, rfl, hk10, hcalm, hh1, hh2, hps, hdy⟩ := hrel
      by_cases hany : k < q1 ∨ k < q2
      · have hkq : k < 10 := by omega
        have hk0 : (0 : Int) ≤ (k : Int) := by omega
        have HCALM := Lib.hid hcalm
        have HH1 := Lib.hid hh1
        have HH2 := Lib.hid hh2
        have HPS := Lib.hid hps
        have HDY := Lib.hid hdy
        obtain ⟨wq, rfl⟩ : ∃ wq : World, wq = wr := ⟨_, rfl⟩
        clear hcalm hh1 hh2 hps hdy
        have ways : (k < q1 ∧ k < q2) ∨ (k < q1 ∧ ¬ k < q2) ∨ (¬ k < q1 ∧ k < q2) := by omega
        rcases ways with ⟨h1, h2⟩ | ⟨h1, h2⟩ | ⟨h1, h2⟩
        all_goals (
          go_upto_region 8 with fail
          go_cut [69] (fun t wx => t = .bool false ∧ ∃ D, Calm D ∧ Holds D (logN 1) 0 (pre 500 S1 (min (k + 1) q1)) ∧ Holds D (logN 2) 1 (pre 500 S2 (min k q2)) ∧ PSm (4 * k + 6) D ∧ DY w wx d D (fun _ => False))
          case first =>
            by_cases hq : k < q1
            · first
                | omega
                | (
                  obtain ⟨b, off, hA, hbl, hcell⟩ := HS1.out (by omega)
                  subst hA
                  have x0 := hcell k (by omega)
                  have x0 := (HDY.out.frame.cell (p := ⟨b, _, none⟩) hbl (by simp)).trans x0
                  have hk1 : (k : Int) < (q1 : Int) := by omega
                  have hd1 : decide ((k : Int) < (q1 : Int)) = true := by simp; omega
                  have hd2 : decide (k < q1) = true := by simp; omega
                  obtain ⟨s, hs⟩ : ∃ s, S1 k = s := ⟨_, rfl⟩
                  have hszk := HSZ1.out k
                  rw [hs] at x0 hszk
                  have hh := HH1.out
                  rw [show min k q1 = k by omega] at hh
                  have hap := append_calm HCALM.out HDY.out.ok hh (cutB 500 s) (by have := cutB_size 500 s; omega) (by
                    have h1 := fras_len (pre_size 500 S1 k)
                    rw [pre_len] at h1
                    have h2 := cutB_size 500 s
                    have h3 : k * (8 + 500) ≤ 10 * 508 := Nat.mul_le_mul (by omega) (by omega)
                    omega)
                  have hca := wal_append 1 (4 * k + 4) (by omega) (cutB 500 s) (by have := cutB_size 500 s; omega) d _ _ w wq.drew HPS.out (by omega) (HDY.out.same ((Chg.refl _ _).drew))
                  have hpn := psm_append (logN 1) (cutB 500 s) HPS.out
                  have hn2 := appended_holds hh (cutB 500 s)
                  rw [← hs, ← pre_succ, hs, show k + 1 = min (k + 1) q1 by omega] at hn2
                  have hn3 := appended_other HH2.out (show 0 ≠ 1 by omega) (cutB 500 s)
                  have hc2 := appended_calm HCALM.out 0 (cutB 500 s)
                  rw [hap] at hpn hca
                  have HCA := Lib.hid hca
                  have HPN := Lib.hid hpn
                  have HN2 := Lib.hid hn2
                  have HN3 := Lib.hid hn3
                  have HC2 := Lib.hid hc2
                  clear hcell hs hap hca hpn hn2 hn3 hc2 hh hbl
                  go_still_tail 17, (by kernel_rfl)
                  change wpList _ _ _ _ _ wq.drew
                  go_wp2_with fail
                  refine HCA.out.mono ?_
                  rintro e w5 ⟨rfl, hd5, _⟩
                  have HD5 := Lib.hid hd5
                  clear hd5
                  go_wp2_with fail
                  go_meet
                  exact ⟨rfl, _, HC2.out, HN2.out, HN3.out, HPN.out, HD5.out⟩)
            · first
                | omega
                | (
                  have hd1 : decide ((k : Int) < (q1 : Int)) = false := by simp; omega
                  have hd2 : decide (k < q1) = false := by simp; omega
                  have e1 : min (k + 1) q1 = min k q1 := by omega
                  have HE1 := Lib.hid e1
                  clear e1
                  go_quiet (fail)
                  go_wp2_with fail
                  go_meet
                  exact ⟨rfl, _, HCALM.out, by rw [HE1.out]; exact HH1.out, HH2.out, HPS.out.up.up, HDY.out.same ((Chg.refl _ _).drewN _)⟩)
          case rest =>
            obtain ⟨rfl, D1, g1, g2, g3, g4, g5⟩ := hcut
            obtain ⟨wz, rfl⟩ : ∃ wz : World, wz = wc := ⟨_, rfl⟩
            have G1 := Lib.hid g1
            have G2 := Lib.hid g2
            have G3 := Lib.hid g3
            have G4 := Lib.hid g4
            have G5 := Lib.hid g5
            clear g1 g2 g3 g4 g5 HCALM HH1 HH2 HPS HDY
            go_upto_region 10 with fail
            go_cut [89] (fun t wx => t = .bool false ∧ ∃ D, Calm D ∧ Holds D (logN 1) 0 (pre 500 S1 (min (k + 1) q1)) ∧ Holds D (logN 2) 1 (pre 500 S2 (min (k + 1) q2)) ∧ PSm (4 * k + 8) D ∧ DY w wx d D (fun _ => False))
            case first =>
              by_cases hq : k < q2
              · first
                  | omega
                  | (
                    obtain ⟨b, off, hA, hbl, hcell⟩ := HS2.out (by omega)
                    subst hA
                    have x0 := hcell k (by omega)
                    have x0 := (G5.out.frame.cell (p := ⟨b, _, none⟩) hbl (by simp)).trans x0
                    have hk1 : (k : Int) < (q2 : Int) := by omega
                    have hd1 : decide ((k : Int) < (q2 : Int)) = true := by simp; omega
                    have hd2 : decide (k < q2) = true := by simp; omega
                    obtain ⟨s, hs⟩ : ∃ s, S2 k = s := ⟨_, rfl⟩
                    have hszk := HSZ2.out k
                    rw [hs] at x0 hszk
                    have hh := G3.out
                    rw [show min k q2 = k by omega] at hh
                    have hap := append_calm G1.out G5.out.ok hh (cutB 500 s) (by have := cutB_size 500 s; omega) (by
                      have h1 := fras_len (pre_size 500 S2 k)
                      rw [pre_len] at h1
                      have h2 := cutB_size 500 s
                      have h3 : k * (8 + 500) ≤ 10 * 508 := Nat.mul_le_mul (by omega) (by omega)
                      omega)
                    have hca := wal_append 2 (4 * k + 6) (by omega) (cutB 500 s) (by have := cutB_size 500 s; omega) d _ _ w wz.drew G4.out (by omega) (G5.out.same ((Chg.refl _ _).drew))
                    have hpn := psm_append (logN 2) (cutB 500 s) G4.out
                    have hn2 := appended_holds hh (cutB 500 s)
                    rw [← hs, ← pre_succ, hs, show k + 1 = min (k + 1) q2 by omega] at hn2
                    have hn3 := appended_other G2.out (show 1 ≠ 0 by omega) (cutB 500 s)
                    have hc2 := appended_calm G1.out 1 (cutB 500 s)
                    rw [hap] at hpn hca
                    have HCA := Lib.hid hca
                    have HPN := Lib.hid hpn
                    have HN2 := Lib.hid hn2
                    have HN3 := Lib.hid hn3
                    have HC2 := Lib.hid hc2
                    clear hcell hs hap hca hpn hn2 hn3 hc2 hh hbl
                    go_still_tail 17, (by kernel_rfl)
                    change wpList _ _ _ _ _ wz.drew
                    go_wp2_with fail
                    refine HCA.out.mono ?_
                    rintro e w5 ⟨rfl, hd5, _⟩
                    have HD5 := Lib.hid hd5
                    clear hd5
                    go_wp2_with fail
                    go_meet
                    exact ⟨rfl, _, HC2.out, HN3.out, HN2.out, HPN.out, HD5.out⟩)
              · first
                  | omega
                  | (
                    have hd1 : decide ((k : Int) < (q2 : Int)) = false := by simp; omega
                    have hd2 : decide (k < q2) = false := by simp; omega
                    have e1 : min (k + 1) q2 = min k q2 := by omega
                    have HE1 := Lib.hid e1
                    clear e1
                    go_quiet (fail)
                    go_wp2_with fail
                    go_meet
                    exact ⟨rfl, _, G1.out, G2.out, by rw [HE1.out]; exact G3.out, G4.out.up.up, G5.out.same ((Chg.refl _ _).drewN _)⟩)
            case rest =>
              obtain ⟨rfl, D2, f1, f2, f3, f4, f5⟩ := hcut
              have F1 := Lib.hid f1
              have F2 := Lib.hid f2
              have F3 := Lib.hid f3
              have F4 := Lib.hid f4
              have F5 := Lib.hid f5
              clear f1 f2 f3 f4 f5
              go_wp2_with fail
              go_roundw
              case rel => exact ⟨k + 1, D2, by go_num, by omega, F1.out, F2.out, F3.out, (show 4 * k + 8 = 4 * (k + 1) + 4 by omega) ▸ F4.out, F5.out⟩
              case measure => simp [intOf]; omega)
      · have hnot : ¬ k < q1 ∧ ¬ k < q2 := by omega
        obtain ⟨hk1, hk2⟩ := hnot
        rw [show min k q1 = q1 by omega] at hh1
        rw [show min k q2 = q2 by omega] at hh2
        have hrd := wal_read 1 (by omega) d D _ w wr hdy
        obtain ⟨g1, g2⟩ := read_calm hcalm hh1
        have hall : allF (frasB (bl (pre 500 S1 q1))) = (bl (pre 500 S1 q1), 10) := all_calm fun b hb => by have := pre_size 500 S1 q1 b hb; omega
        rw [g1] at hrd
        have HRD := Lib.hid hrd
        have HALL := Lib.hid hall
        have HG2 := Lib.hid g2
        have HCALM := Lib.hid hcalm
        have HH2 := Lib.hid hh2
        have HH1 := Lib.hid hh1
        have HPS := Lib.hid hps
        have HDY := Lib.hid hdy
        clear hcalm hh1 hh2 hps hdy hrd hall g1 g2
        go_upto_region 12 with fail
        go_wp2_with fail
        refine HRD.out.mono ?_
        rintro e w5 ⟨hr, hc5⟩
        rw [HG2.out, HALL.out] at hr
        rcases hr with ⟨h, _⟩ | ⟨_, h, _⟩ | ⟨_, _, _, v, l, rfl, hL, hbl⟩
        · exact absurd rfl h
        · simp at h
        · have hl : l = pre 500 S1 q1 := bl_inj hbl
          subst hl
          obtain ⟨la, lc, rfl, _, _, hrl⟩ := str_form hL
          have hlen := pre_len 500 S1 q1
          have HRL := Lib.hid hrl
          have HC5 := Lib.hid hc5
          have HD5 := Lib.hid (HDY.out.same hc5)
          rw [hlen]
          have HLEN := Lib.hid hlen
          clear hL hbl hrl hc5 hlen
          go_wp2_with fail
          go_loopw [110] (fun i wx => ∃ j : Nat, j ≤ q1 ∧ i = .int .i64 j ∧ Chg (fun _ => False) w5 wx) (fun i _ => q1 - (intOf i).toNat)
          case atStart => exact ⟨0, by omega, rfl, Chg.refl _ _⟩
          case round =>
            obtain ⟨j, hj, rfl, hcj⟩ := hrel
            by_cases hlt : j < q1
            · have hsp : pre 500 S1 q1 = (pre 500 S1 q1).take j ++ cutB 500 (S1 j) :: (pre 500 S1 q1).drop (j + 1) := by
                have hl : j < (pre 500 S1 q1).length := by rw [pre_len]; exact hlt
                have he : (pre 500 S1 q1)[j] = cutB 500 (S1 j) := by simp [pre]
                rw [← he, ← List.drop_eq_getElem_cons, List.take_append_drop]
              obtain ⟨bl1, hla, hbl1, _, x1⟩ := HRL.out _ _ _ hsp
              rw [List.length_take, pre_len, Nat.min_eq_left (by omega)] at x1
              subst hla
              obtain ⟨b, off, hA, hbl, hcell⟩ := HS1.out (by omega)
              subst hA
              have x0 := hcell j (by omega)
              have hwx := (HD5.out.frame).then hcj
              have x0 := (hwx.cell (p := ⟨b, _, none⟩) hbl (by simp)).trans x0
              have x1 := (hcj.cell (p := ⟨bl1, _, none⟩) hbl1 (by simp)).trans x1
              obtain ⟨s, hs⟩ : ∃ s, S1 j = s := ⟨_, rfl⟩
              have hszk := HSZ1.out j
              rw [hs] at x0 x1 hszk
              obtain ⟨t, ht⟩ : ∃ t, cutB 500 s = t := ⟨_, rfl⟩
              have hmt := fun w => hmin s w
              rw [ht] at x1
              simp only [ht] at hmt
              have hqq : (t.toList == t.toList) = true := by simp
              have hj0 : (0 : Int) ≤ (j : Int) := by omega
              have hj1 : (j : Int) < (q1 : Int) := by omega
              have HCJ := Lib.hid hcj
              clear hsp hcell hwx hcj ht hmin hbl hbl1 hs
              go_wp2_with fail
              go_quiet (fail)
              go_wp2_with fail
              go_roundw
              case rel => exact ⟨j + 1, by omega, by go_num, by have := HCJ.out; ((repeat (first | exact Chg.refl _ _ | assumption | refine Chg.drewN ?_ _ | refine Chg.drew ?_ | refine Chg.alloc ?_ _ | refine Chg.setCell ?_ (by first | (simp; done) | (simp; omega) | (intro h; simp at h; omega)) _)))⟩
              case measure => simp [intOf]; omega
            · obtain rfl : j = q1 := by omega
              have hdz := HD5.out.same hcj
              have hrm := wal_remove 1 (4 * k + 4) (by omega) d D _ w wr HPS.out (by omega) hdz
              rw [remove_calm HCALM.out HH1.out.1] at hrm
              have hcalm2 := removed_calm HCALM.out (logN 1)
              have hh2' := removed_other HH2.out log_ne
              have hgone := removed_gone D HCALM.out (logN 1)
              obtain ⟨g1, g2⟩ := read_calm hcalm2 hh2'
              have hall2 : allF (frasB (bl (pre 500 S2 q2))) = (bl (pre 500 S2 q2), 10) := all_calm fun b hb => by have := pre_size 500 S2 q2 b hb; omega
              have HRM := Lib.hid hrm
              have HGO := Lib.hid hgone
              have HG1 := Lib.hid g1
              have HG22 := Lib.hid g2
              have HALL2 := Lib.hid hall2
              clear hdz hrm hcalm2 hh2' hgone g1 g2 hall2 hcj hmin
              go_wp2_with fail
              refine HRM.out.mono ?_
              rintro e w6 ⟨rfl, hd6, _⟩
              have hr2 := wal_read 2 (by omega) d _ _ w w6 hd6
              rw [HG1.out] at hr2
              have HR2 := Lib.hid hr2
              have HD6 := Lib.hid hd6
              clear hr2 hd6
              go_wp2_with fail
              refine HR2.out.mono ?_
              rintro e w7 ⟨hr, hc7⟩
              rw [HG22.out, HALL2.out] at hr
              rcases hr with ⟨h, _⟩ | ⟨_, h, _⟩ | ⟨_, _, _, v2, l2, rfl, hL2, hbl2⟩
              · exact absurd rfl h
              · simp at h
              · have hl2 : l2 = pre 500 S2 q2 := bl_inj hbl2
                subst hl2
                obtain ⟨lb, ld, rfl, _⟩ := str_form hL2
                have hlen2 := pre_len 500 S2 q2
                rw [hlen2]
                have hd7 := HD6.out.same hc7
                have hr3 := wal_read 1 (by omega) d _ _ w w7 hd7
                rw [HGO.out] at hr3
                have HR3 := Lib.hid hr3
                have HF7 := Lib.hid hd7.frame
                have HLEN2 := Lib.hid hlen2
                clear hL2 hbl2 hlen2 hd7 hr3 hc7
                go_wp2_with fail
                refine HR3.out.mono ?_
                rintro e w8 ⟨hr, hc8⟩
                have HC8 := Lib.hid (HF7.out.then hc8)
                clear hc8
                rcases hr with ⟨h, rfl⟩ | ⟨h, _⟩ | ⟨h, _⟩
                · clear h
                  go_wp2_with fail
                  go_ret
                  exact ⟨rfl, HC8.out⟩
                · exact absurd h (by decide)
                · exact absurd h (by decide)
end Go.Proofs.YtjfbcjmnjlehaaaDoor
