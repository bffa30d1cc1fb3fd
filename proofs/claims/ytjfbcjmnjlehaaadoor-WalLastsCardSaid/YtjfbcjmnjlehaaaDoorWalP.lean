/-
  The walk of WalLasts.
-/
import Derived.Test.YtjfbcjmnjlehaaaDoorWalO
import Derived.Deep.DeepCutAuto
import Derived.StillTailTactics
namespace Go.Proofs.YtjfbcjmnjlehaaaDoor
open Go.RowKit
set_option linter.unusedVariables false
set_option linter.unusedSimpArgs false

theorem rints_old {w W : World} {v : Value} {l : List Int} (h : RInts w v l) (hc : Chg (fun k => w.heap.size ≤ k) w W) : RInts W v l := by
  obtain ⟨a, c, hv, hl, hb, hr⟩ := h
  refine ⟨a, c, hv, hl, hb, fun h0 => ?_⟩
  obtain ⟨b, off, ha, hx⟩ := hr h0
  refine ⟨b, off, ha, fun i x hi => ?_⟩
  have := hx i x hi
  have hlt : b < w.heap.size := cell_lt this
  exact (hc.cell (p := ⟨b, off + i, none⟩) hlt (by show ¬ w.heap.size ≤ b; omega)).trans this
theorem run_preT (m : Nat) (A : Option Addr) (n c q : Nat) (e : min (n : Int) (m : Int) = (q : Int)) (hq : q ≤ c) (w : World) : (Instr.slice 22 (.slice A n c) none (some (.int .i64 (min (n : Int) (m : Int)))) none).run Tryd.prog w = .ok (.slice A q c) w := by
  have h2 : (q : Int) ≤ (c : Int) := by omega
  have hs : (sizeOf (Tryd.prog.elem 22)).run Tryd.prog w = .ok 1 w := by kernel_rfl
  rw [e, run_slice_h w 22 A n c (by kernel_rfl) .i64 (q : Int) (by omega) h2, hs]
  cases A with
  | none => simp [Result.andThen, sliced]
  | some v =>
    have : v.add 0 = v := by
      obtain ⟨b, o, s⟩ := v
      cases s <;> simp [Addr.add]
    simp [Result.andThen, sliced, this]
theorem DY.own {w0 w w' : World} {d : Nat} {D : DiskV} {v v' : Value} (h : DY w0 w d D (fun j => v.ownBlock = some j)) (hc : Chg (fun k => v.ownBlock = some k) w w') (hb : ∀ k, v'.ownBlock = some k → v.ownBlock = some k ∨ w.heap.size ≤ k)
    (hlt : ∀ k, v'.ownBlock = some k → k < w'.heap.size) (hown : ∀ j, v.ownBlock = some j → w0.heap.size ≤ j) : DY w0 w' d D (fun j => v'.ownBlock = some j) := by
  obtain ⟨ids, M, ha, hM, hY, hc0⟩ := h
  refine ⟨ids, M, ha.chg hc (fun k hk e => (hY k e).2 hk), hM, fun k hk => ⟨hlt k hk, fun hm => ?_⟩, hc0.trans hc fun k hk e => ?_⟩
  · rcases hb k hk with e | e
    · exact (hY k e).2 hm
    · have := ha.lt k hm; omega
  · have := hown k e; omega
section
variable (w0 : World) (d : Nat) (D : DiskV) (Y : Nat → Prop) (w : World) (h : DY w0 w d D Y) (names : Int) (bytes : List Int) (bv : Value) (hn1 : -9223372036854775808 ≤ names) (hn2 : names ≤ 9223372036854775807) (hb : RInts w0 bv bytes)
include h hn1 hn2 hb
theorem y_cut (n : Int) (hl : bytes.length ≤ 17592186044416) (hn : n ≤ 9223372036854775807) : Calls Tryd.prog 13 #[.pointer (some ⟨d, 0, none⟩), .int .i64 n, .int .i64 names, bv] w fun e w' => e = .returned (.tuple #[]) ∧ DY w0 w' d (cutD D n names bytes) Y ∧ Kept Y w w' := by
  obtain ⟨ids, M, ha, hM, hY, hc⟩ := h
  exact (disk_cut d ids D M n names bytes bv hl hn hn1 hn2 w ha (rints_old hb (hc.mono fun _ _ e => e.elim))).mono fun e w' ⟨he, hp⟩ => ⟨he, DY.post hM hY hc hp⟩
theorem y_crash (hq : D.queue.length ≤ 1000000000) : Calls Tryd.prog 14 #[.pointer (some ⟨d, 0, none⟩), .int .i64 names, bv] w fun e w' => e = .returned (.tuple #[]) ∧ DY w0 w' d (crashD D names bytes) Y ∧ Kept Y w w' := by
  obtain ⟨ids, M, ha, hM, hY, hc⟩ := h
  exact (disk_crash d ids D M names bytes bv hq hn1 hn2 w ha (fun W hW => rints_old hb ((hc.mono fun _ _ e => e.elim).trans hW fun k _ e => hM k e))).mono fun e w' ⟨he, hp⟩ => ⟨he, DY.post hM hY hc hp⟩
end
set_option maxRecDepth 100000 in
set_option maxHeartbeats 4000000 in
theorem wal_lasts (A : Option Addr) (n c : Nat) (S : Nat → ByteArray) (c1 c2 : Int) (bytes : List Int) (bv : Value) (w : World) (h1 : -9223372036854775808 ≤ c1 ∧ c1 ≤ 9223372036854775807) (h2 : -9223372036854775808 ≤ c2 ∧ c2 ≤ 9223372036854775807)
    (hn : n ≤ c) (hc : c ≤ maxLen) (hS : StrsAt w A n S) (hsz : ∀ i, (S i).size ≤ maxLen) (hbl : bytes.length ≤ 17592186044416) (hbs : RInts w bv bytes) :
    Calls Tryd.prog 5 #[.slice A n c, .agg #[.int .i64 c1, .int .i64 c2], bv] w fun e w' => e = .returned (.bool true) ∧ Chg (fun _ => False) w w' := by
  unfold maxLen at hc hsz
  obtain ⟨wb, hwb⟩ : ∃ wb, wb = w.alloc (.cells #[.int .i64 c1, .int .i64 c2] 34) := ⟨_, rfl⟩
  have hcb : Chg (fun _ => False) w wb := by rw [hwb]; ((repeat (first | exact Chg.refl _ _ | assumption | refine Chg.drewN ?_ _ | refine Chg.drew ?_ | refine Chg.alloc ?_ _ | refine Chg.setCell ?_ (by first | (simp; done) | (simp; omega) | (intro h; simp at h; omega)) _)))
  have hbk : Blk wb w.heap.size 34 #[.int .i64 c1, .int .i64 c2] := by rw [hwb]; exact Blk.new _ _ _
  have hnew := st_new 1099511627776 (by omega) wb
  obtain ⟨q, hq1, hq2, hq3⟩ : ∃ q : Nat, q ≤ n ∧ q ≤ 20 ∧ (min (n : Int) 20 = (q : Int)) := ⟨min n 20, by omega, by omega, by omega⟩
  have hbs' := rints_old hbs (hcb.mono fun _ _ e => e.elim)
  have hS' := hS.same hcb
  have hst : StrsAt wb A n S := hS'
  obtain ⟨ba, bc, rfl, _, _, _⟩ := hbs
  obtain ⟨g, hg⟩ : ∃ g, w.heap.size = g := ⟨_, rfl⟩
  have hwl : g < wb.heap.size := by rw [hwb, ← hg]; simp
  rw [hg] at hbk
  have HWB := Lib.hid hwb
  have HCB := Lib.hid hcb
  have HBK := Lib.hid hbk
  have HNEW := Lib.hid hnew
  have HS := Lib.hid hst
  have HSZ := Lib.hid hsz
  have HBS := Lib.hid hbs'
  have HQ3 := Lib.hid hq3
  clear hwb hcb hbk hnew hst hS hS' hsz hbs' hq3
  go_enter Tryd.func5, Tryd.ntmps5
  go_wp2_with fail
  rw [← HWB.out]
  refine HNEW.out.mono ?_
  rintro e w1 ⟨rfl, hd1⟩
  have hd1 := DY.of hd1
  obtain ⟨d, hd⟩ : ∃ d, wb.heap.size + 2 = d := ⟨_, rfl⟩
  rw [hd] at hd1 ⊢
  have H1 := Lib.hid hd1
  clear hd hd1
  go_wp2_with fail
  refine (wal_wakes _).mono ?_
  rintro e w2 ⟨rfl, hc2⟩
  have hcr := wal_create 1 0 (by omega) d (startD 1099511627776) _ wb w2 (p_bsm_start _) (by omega) (H1.out.same hc2)
  rw [show ((1 : Nat) : Int) = 1 from rfl] at hcr
  have HCR := Lib.hid hcr
  clear hcr hc2
  go_wp2_with fail
  refine HCR.out.mono ?_
  rintro e w3 ⟨rfl, hd3, _⟩
  rw [bk_res.1]
  have x0 := (HBK.out.chg (DY.frame hd3) (by simp)).cell 0
  have x1 := (HBK.out.chg (DY.frame hd3) (by simp)).cell 1
  simp at x0 x1
  have hcu := y_cut wb d _ _ w3 hd3 c2 bytes _ h2.1 h2.2 HBS.out c1 hbl h1.2
  have HCU := Lib.hid hcu
  clear hcu hd3
  go_wp2_with fail
  refine HCU.out.mono ?_
  rintro e w4 ⟨rfl, hd4, _⟩
  have H4 := Lib.hid (show DY wb w4 d (cutD bk1 c1 c2 bytes) (fun _ => False) from hd4)
  clear hd4 x0 x1
  have hp1 : ∀ w : World, (Instr.slice 22 (.slice A n c) none (some (.int .i64 (min (n : Int) 20))) none).run Tryd.prog w = .ok (.slice A q c) w := fun w => run_preT 20 A n c q HQ3.out (by omega) w
  have hmin : ∀ (s : ByteArray) (w : World), (Instr.slice 9 (.string s) none (some (.int .i64 (min (s.size : Int) 1000))) none).run Tryd.prog w = .ok (.string (cutB 1000 s)) w := fun s w => run_cutB 1000 s w
  go_wp2_with fail
  go_loopw [8, 9, 39] (fun u v i wr => ∃ (k : Nat) (D : DiskV), k ≤ q ∧ u = .int .i64 k ∧ i = .int .i64 k ∧ LiveC D (pre 1000 S k) ∧ Lst strC wr v (pre 1000 S k) ∧ PSm (2 * k + 3) D ∧ DY wb wr d D (fun j => v.ownBlock = some j) ∧ (∀ j, v.ownBlock = some j → wb.heap.size ≤ j)) (fun _ _ i _ => q - (intOf i).toNat)
  case atStart =>
    have hd0 := H4.out.grow ((Chg.refl _ _).alloc (.cells #[] 9))
    have hsw := (DY.frame H4.out).size
    exact ⟨0, cutD bk1 c1 c2 bytes, by omega, rfl, rfl, cut_live _ _ _, Lst.of_block (l := []) strOk (Blk.new _ _ _) rfl (by simp), p_bsm_cut (psm_create _ (p_bsm_start _)) _ _ _, hd0.mono (fun j hj => by
      simp [Value.ownBlock] at hj
      exact .inr ⟨by omega, by simp; omega⟩), fun j hj => by simp [Value.ownBlock] at hj; omega⟩
  case round =>
    obtain ⟨k, D, hk, rfl, rfl, hlive, hL, hps, hdy, hown⟩ := hrel
    obtain ⟨la, lc, rfl, _, _, _⟩ := str_form hL
    rw [pre_len] at *
    obtain ⟨wq, rfl⟩ : ∃ wq : World, wq = wr := ⟨_, rfl⟩
    by_cases hlt : k < q
    · obtain ⟨b, off, rfl, hbl, hcell⟩ := HS.out (by omega)
      have x0 := hcell k (by omega)
      have x0 := (hdy.frame.cell (p := ⟨b, _, none⟩) hbl (by simp)).trans x0
      have hk1 : (k : Int) < (q : Int) := by omega
      have hk0 : (0 : Int) ≤ (k : Int) := by omega
      obtain ⟨s, hs⟩ : ∃ s, S k = s := ⟨_, rfl⟩
      have hszk := HSZ.out k
      rw [hs] at x0 hszk
      obtain ⟨t, ht⟩ : ∃ t, cutB 1000 s = t := ⟨_, rfl⟩
      have htz : t.size ≤ 1000 := by rw [← ht]; exact cutB_size 1000 s
      have hap := append_live hlive t (by omega) (by
        have h1 := fras_len (pre_size 1000 S k)
        rw [pre_len] at h1
        have h3 : k * (8 + 1000) ≤ 20 * 1008 := Nat.mul_le_mul (by omega) (by omega)
        omega)
      have hnx : pre 1000 S (k + 1) = pre 1000 S k ++ [t] := by rw [pre_succ, hs, ht]
      have hmt : ∀ w : World, (Instr.slice 9 (.string s) none (some (.int .i64 (min (s.size : Int) 1000))) none).run Tryd.prog w = .ok (.string t) w := fun w => by rw [hmin s w, ht]
      obtain ⟨wy, hwy⟩ : ∃ wy, wy = wq.alloc (.cells #[.string t] 9) := ⟨_, rfl⟩
      have hL1 : Lst strC wy (.slice la k lc) (pre 1000 S k) := by rw [hwy]; exact hL.same ((Chg.refl _ wq).alloc _)
      have hdy1 : DY wb wy d D (fun j => (Value.slice la k lc).ownBlock = some j) := by rw [hwy]; exact hdy.same ((Chg.refl _ wq).alloc _)
      have hbk1 : Blk wy wq.heap.size 9 #[.string t] := by rw [hwy]; exact Blk.new _ _ _
      have HL1 := Lib.hid hL1
      have HBK1 := Lib.hid hbk1
      have HDY1 := Lib.hid hdy1
      have HPS := Lib.hid hps
      have HAP := Lib.hid hap
      have HNX := Lib.hid hnx
      have HOWN := Lib.hid hown
      have HWY := Lib.hid hwy
      have HT := Lib.hid (show cutB 1000 (S k) = t by rw [hs, ht])
      have HPL := Lib.hid (pre_len 1000 S k)
      clear hL hL1 hbk1 hdy hdy1 hps hap hnx hown hwy hcell hs ht hbl hlive hmin
      go_wp2_with (at_builtin; rw [← HWY.out]; refine wpList_lst_app strOk _ (by rfl) _ _ (by rfl) (pre 1000 S k) (.slice la k lc) t (by rfl) HL1.out wq.heap.size (by rfl) (by rw [HPL.out]; omega) HBK1.out ?_)
      intro v' w2 hO hc2 hk2
      rw [← HNX.out] at hO
      have hdy2 := HDY1.out.own hc2 hk2 (fun j hj => hO.lt hj) HOWN.out
      have hown2 : ∀ j, v'.ownBlock = some j → wb.heap.size ≤ j := fun j e => by
        rcases hk2 j e with h | h
        · exact HOWN.out j h
        · have := (DY.frame HDY1.out).size; omega
      obtain ⟨xa, xc, ex, _⟩ := str_form hO
      rw [pre_len] at ex
      subst ex
      have hca := wal_append 1 (2 * k + 3) (by omega) t (by omega) d D _ wb w2 HPS.out (by omega) hdy2
      have hps2 := psm_append (logN 1) t HPS.out
      have HCA := Lib.hid hca
      have HPS2 := Lib.hid hps2
      have HO := Lib.hid hO
      have HOWN2 := Lib.hid hown2
      clear hO hc2 hk2 hdy2 hown2 hca hps2
      go_wp2_with fail
      refine HCA.out.mono ?_
      rintro e w5 ⟨rfl, hd5, hk5⟩
      have hL5 := HO.out.kept hk5 (fun j e => e)
      rcases HAP.out with ⟨h0, hlv⟩ | ⟨h13, j, hj, hone⟩
      · rw [h0]
        rw [← HNX.out] at hlv
        have HLV := Lib.hid hlv
        have HD5 := Lib.hid hd5
        have HL5 := Lib.hid hL5
        clear hlv hd5 hk5 hL5 h0 HAP HCA
        go_wp2_with fail
        go_roundw
        case rel => exact ⟨k + 1, _, by omega, by go_num, by go_num, HLV.out, HL5.out, (show 2 * k + 3 + 2 = 2 * (k + 1) + 3 by omega) ▸ HPS2.out, HD5.out, HOWN2.out⟩
        case measure => simp [intOf]; omega
      · rw [h13]
        rw [← HT.out] at hj hone
        have HTA := Lib.hid (tail_gone (by omega) hone)
        have HQU := Lib.hid (show (appendW D (logN 1) (cutB 1000 (S k))).2.queue.length ≤ 1000000000 by rw [hone.queue]; simp)
        rw [← HT.out] at hd5
        have HD := Lib.hid hd5
        have HLM := Lib.hid hL5
        clear h13 hj hone hd5 hk5 hL5 HAP HCA
        have y1 := (HBK.out.chg (DY.frame HD.out) (by simp)).cell 1
        simp at y1
        have hcra := y_crash wb d _ _ _ HD.out c2 bytes _ h2.1 h2.2 HBS.out HQU.out
        obtain ⟨gz, r, z, hr1, hr2, hall, hz⟩ := HTA.out c2 bytes
        have HCRA := Lib.hid hcra
        have HGZ := Lib.hid gz
        have HALL := Lib.hid hall
        clear hcra gz hall
        go_wp2_with fail
        refine HCRA.out.mono ?_
        rintro e w6 ⟨rfl, hd6, hk6⟩
        have hL6 := HLM.out.kept hk6 (fun k e => e)
        have hrd := wal_read 1 (by omega) d _ _ wb w6 hd6
        have HF6 := Lib.hid hd6.frame
        have HL6 := Lib.hid hL6
        have HRD := Lib.hid hrd
        clear y1 hd6 hk6 hL6 hrd
        go_wp2_with fail
        refine HRD.out.mono ?_
        rintro e w7 ⟨hr, hc7⟩
        rw [HGZ.out, HALL.out] at hr
        rcases hr with ⟨h, _⟩ | ⟨_, h, _⟩ | ⟨_, _, _, vr, l, rfl, hLr, hbl2⟩
        · exact absurd rfl h
        · simp only at h; omega
        · have hl : l = pre 1000 S r := bl_inj hbl2
          subst hl
          obtain ⟨ra, rc, rfl, _, _, hrl⟩ := str_form hLr
          obtain ⟨ma, mc, hmv, _, _, hml⟩ := str_form (HL6.out.same hc7)
          have hlen := pre_len 1000 S r
          have hlen2 := pre_len 1000 S (k + 1)
          rw [hlen]
          have hmv2 := hmv
          rw [hlen2] at hmv2
          injection hmv2 with hma hmn hmc
          subst hma
          have HRL := Lib.hid hrl
          have HML := Lib.hid hml
          have HC7 := Lib.hid hc7
          have HF7 := Lib.hid (HF6.out.then hc7)
          clear hLr hbl2 hrl hml hmv hmc hmn hc7 hlen hlen2
          have e1 : decide ((r : Int) < (k : Int)) = false := by simp; omega
          have e2 : decide ((r : Int) > ((k + 1) : Int)) = false := by simp; omega
          have e3 : decide (((k + 1) : Int) < (r : Int)) = false := by simp; omega
          have e4 : z = 3 → r < (k + 1) := fun hz3 => by omega
          have ez : ∃ tb : Bool, decide (z = 3) = tb ∧ (tb = true → r < (k + 1)) := ⟨_, rfl, fun h => e4 (by simpa using h)⟩
          obtain ⟨tb, htb, e4⟩ := ez
          simp only [htb]
          have hr20 : r ≤ 21 := by omega
          clear hz htb
          cases tb
          all_goals
            try replace e4 := e4 rfl
            first
              | (exfalso; clear HRL HML; omega)
              | (
                try have e5 : ((r : Int) == (k : Int) + 1) = false := by simp; omega
                go_wp2_with fail
                all_goals try (exfalso; clear HRL HML; omega)
                go_loopw [100] (fun i wx => ∃ j : Nat, j ≤ r ∧ i = .int .i64 j ∧ Chg (fun _ => False) w7 wx) (fun i _ => r - (intOf i).toNat)
                case atStart => exact ⟨0, by omega, rfl, Chg.refl _ _⟩
                case round =>
                  obtain ⟨j, hj, rfl, hcj⟩ := hrel
                  by_cases hjr : j < r
                  · have hsp : ∀ t, j < t → pre 1000 S t = (pre 1000 S t).take j ++ cutB 1000 (S j) :: (pre 1000 S t).drop (j + 1) := fun t ht => by
                      have hl : j < (pre 1000 S t).length := by rw [pre_len]; exact ht
                      have he : (pre 1000 S t)[j] = cutB 1000 (S j) := by simp [pre]
                      rw [← he, ← List.drop_eq_getElem_cons, List.take_append_drop]
                    obtain ⟨bl1, hla, hbl1, _, z1⟩ := HRL.out _ _ _ (hsp r hjr)
                    obtain ⟨bl2, hlb, hbl2, _, z2⟩ := HML.out _ _ _ (hsp (k + 1) (by omega))
                    rw [List.length_take, pre_len, Nat.min_eq_left (by omega)] at z1 z2
                    subst hla hlb
                    have z1 := (hcj.cell (p := ⟨bl1, _, none⟩) hbl1 (by simp)).trans z1
                    have z2 := (hcj.cell (p := ⟨bl2, _, none⟩) hbl2 (by simp)).trans z2
                    obtain ⟨s, hs⟩ : ∃ s, cutB 1000 (S j) = s := ⟨_, rfl⟩
                    rw [hs] at z1 z2
                    have hqq : (s.toList == s.toList) = true := by simp
                    have hj0 : (0 : Int) ≤ (j : Int) := by omega
                    have hj1 : (j : Int) < (r : Int) := by omega
                    have hj2 : (j : Int) < ((k + 1) : Int) := by omega
                    have HCJ := Lib.hid hcj
                    clear hsp hcj hbl1 hbl2 hs
                    go_wp2_with fail
                    go_quiet (fail)
                    go_wp2_with fail
                    go_roundw
                    case rel => exact ⟨j + 1, by omega, by go_num, by have := HCJ.out; ((repeat (first | exact Chg.refl _ _ | assumption | refine Chg.drewN ?_ _ | refine Chg.drew ?_ | refine Chg.alloc ?_ _ | refine Chg.setCell ?_ (by first | (simp; done) | (simp; omega) | (intro h; simp at h; omega)) _)))⟩
                    case measure => simp [intOf]; omega
                  · obtain rfl : j = r := by omega
                    have HFJ := Lib.hid (HCB.out.then (HF7.out.then hcj))
                    clear hcj
                    go_wp2_with fail
                    go_ret
                    exact ⟨rfl, HFJ.out⟩)
    · obtain rfl : k = q := by omega
      have HTA := Lib.hid (tail_live hlive)
      have HQU := Lib.hid (show D.queue.length ≤ 1000000000 by rw [hlive.one.queue]; simp)
      have HD := Lib.hid hdy
      have HLM := Lib.hid hL
      clear hL hdy hps hlive hown
      have y1 := (HBK.out.chg (DY.frame HD.out) (by simp)).cell 1
      simp at y1
      have hcra := y_crash wb d _ _ _ HD.out c2 bytes _ h2.1 h2.2 HBS.out HQU.out
      obtain ⟨gz, r, z, hr1, hr2, hall, hz⟩ := HTA.out c2 bytes
      have HCRA := Lib.hid hcra
      have HGZ := Lib.hid gz
      have HALL := Lib.hid hall
      clear hcra gz hall
      go_wp2_with fail
      refine HCRA.out.mono ?_
      rintro e w6 ⟨rfl, hd6, hk6⟩
      have hL6 := HLM.out.kept hk6 (fun k e => e)
      have hrd := wal_read 1 (by omega) d _ _ wb w6 hd6
      have HF6 := Lib.hid hd6.frame
      have HL6 := Lib.hid hL6
      have HRD := Lib.hid hrd
      clear y1 hd6 hk6 hL6 hrd
      go_wp2_with fail
      refine HRD.out.mono ?_
      rintro e w7 ⟨hr, hc7⟩
      rw [HGZ.out, HALL.out] at hr
      rcases hr with ⟨h, _⟩ | ⟨_, h, _⟩ | ⟨_, _, _, vr, l, rfl, hLr, hbl2⟩
      · exact absurd rfl h
      · simp only at h; omega
      · have hl : l = pre 1000 S r := bl_inj hbl2
        subst hl
        obtain ⟨ra, rc, rfl, _, _, hrl⟩ := str_form hLr
        obtain ⟨ma, mc, hmv, _, _, hml⟩ := str_form (HL6.out.same hc7)
        have hlen := pre_len 1000 S r
        have hlen2 := pre_len 1000 S k
        rw [hlen]
        have hmv2 := hmv
        rw [hlen2] at hmv2
        injection hmv2 with hma hmn hmc
        subst hma
        have HRL := Lib.hid hrl
        have HML := Lib.hid hml
        have HC7 := Lib.hid hc7
        have HF7 := Lib.hid (HF6.out.then hc7)
        clear hLr hbl2 hrl hml hmv hmc hmn hc7 hlen hlen2
        have e1 : decide ((r : Int) < (k : Int)) = false := by simp; omega
        have e2 : decide ((r : Int) > (k : Int)) = false := by simp; omega
        have e3 : decide ((k : Int) < (r : Int)) = false := by simp; omega
        have e4 : z = 3 → r < k := fun hz3 => by omega
        have ez : ∃ tb : Bool, decide (z = 3) = tb ∧ (tb = true → r < k) := ⟨_, rfl, fun h => e4 (by simpa using h)⟩
        obtain ⟨tb, htb, e4⟩ := ez
        simp only [htb]
        have hr20 : r ≤ 21 := by omega
        clear hz htb
        cases tb
        all_goals
          try replace e4 := e4 rfl
          first
            | (exfalso; clear HRL HML; omega)
            | (
              try have e5 : ((r : Int) == ((k : Nat) : Int)) = false := by simp; omega
              go_wp2_with fail
              all_goals try (exfalso; clear HRL HML; omega)
              go_loopw [100] (fun i wx => ∃ j : Nat, j ≤ r ∧ i = .int .i64 j ∧ Chg (fun _ => False) w7 wx) (fun i _ => r - (intOf i).toNat)
              case atStart => exact ⟨0, by omega, rfl, Chg.refl _ _⟩
              case round =>
                obtain ⟨j, hj, rfl, hcj⟩ := hrel
                by_cases hjr : j < r
                · have hsp : ∀ t, j < t → pre 1000 S t = (pre 1000 S t).take j ++ cutB 1000 (S j) :: (pre 1000 S t).drop (j + 1) := fun t ht => by
                    have hl : j < (pre 1000 S t).length := by rw [pre_len]; exact ht
                    have he : (pre 1000 S t)[j] = cutB 1000 (S j) := by simp [pre]
                    rw [← he, ← List.drop_eq_getElem_cons, List.take_append_drop]
                  obtain ⟨bl1, hla, hbl1, _, z1⟩ := HRL.out _ _ _ (hsp r hjr)
                  obtain ⟨bl2, hlb, hbl2, _, z2⟩ := HML.out _ _ _ (hsp k (by omega))
                  rw [List.length_take, pre_len, Nat.min_eq_left (by omega)] at z1 z2
                  subst hla hlb
                  have z1 := (hcj.cell (p := ⟨bl1, _, none⟩) hbl1 (by simp)).trans z1
                  have z2 := (hcj.cell (p := ⟨bl2, _, none⟩) hbl2 (by simp)).trans z2
                  obtain ⟨s, hs⟩ : ∃ s, cutB 1000 (S j) = s := ⟨_, rfl⟩
                  rw [hs] at z1 z2
                  have hqq : (s.toList == s.toList) = true := by simp
                  have hj0 : (0 : Int) ≤ (j : Int) := by omega
                  have hj1 : (j : Int) < (r : Int) := by omega
                  have hj2 : (j : Int) < (k : Int) := by omega
                  have HCJ := Lib.hid hcj
                  clear hsp hcj hbl1 hbl2 hs
                  go_wp2_with fail
                  go_quiet (fail)
                  go_wp2_with fail
                  go_roundw
                  case rel => exact ⟨j + 1, by omega, by go_num, by have := HCJ.out; ((repeat (first | exact Chg.refl _ _ | assumption | refine Chg.drewN ?_ _ | refine Chg.drew ?_ | refine Chg.alloc ?_ _ | refine Chg.setCell ?_ (by first | (simp; done) | (simp; omega) | (intro h; simp at h; omega)) _)))⟩
                  case measure => simp [intOf]; omega
                · obtain rfl : j = r := by omega
                  have HFJ := Lib.hid (HCB.out.then (HF7.out.then hcj))
                  clear hcj
                  go_wp2_with fail
                  go_ret
                  exact ⟨rfl, HFJ.out⟩)
end Go.Proofs.YtjfbcjmnjlehaaaDoor
