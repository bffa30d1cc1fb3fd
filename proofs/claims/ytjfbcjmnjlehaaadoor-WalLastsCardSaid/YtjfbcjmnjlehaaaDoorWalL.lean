/-
  The walk of WalBits.
-/
import Derived.Test.YtjfbcjmnjlehaaaDoorWalK
namespace Go.Proofs.YtjfbcjmnjlehaaaDoor
open Go.RowKit
set_option linter.unusedVariables false
set_option linter.unusedSimpArgs false

def StrsAt (w : World) (A : Option Addr) (n : Nat) (S : Nat → ByteArray) : Prop := 0 < n → ∃ b off, A = some ⟨b, off, none⟩ ∧ b < w.heap.size ∧ ∀ i, i < n → w.cell? ⟨b, off + i, none⟩ = some (.string (S i))
theorem StrsAt.same {w w' : World} {A : Option Addr} {n : Nat} {S : Nat → ByteArray} (h : StrsAt w A n S) (hc : Chg (fun _ => False) w w') : StrsAt w' A n S := fun h0 => by
  obtain ⟨b, off, e, hb, hr⟩ := h h0
  exact ⟨b, off, e, Nat.lt_of_lt_of_le hb hc.size, fun i hi => (hc.cell (p := ⟨b, _, none⟩) hb (by simp)).trans (hr i hi)⟩
def cutB (m : Nat) (b : ByteArray) : ByteArray := b.extract 0 (min b.size m)
theorem cutB_size (m : Nat) (b : ByteArray) : (cutB m b).size ≤ m := by unfold cutB; simp; omega
theorem run_cutB (m : Nat) (s : ByteArray) (w : World) : (Instr.slice 9 (.string s) none (some (.int .i64 (min (s.size : Int) (m : Int)))) none).run Tryd.prog w = .ok (.string (cutB m s)) w := by
  have e : min (s.size : Int) (m : Int) = ((min s.size m : Nat) : Int) := by omega
  rw [e, run_slice_string_h w _ _ Tryd.underlying9 .i64 _ (by omega) (by omega)]
  simp [cutB]
def pre (m : Nat) (S : Nat → ByteArray) (k : Nat) : List ByteArray := (List.range k).map fun i => cutB m (S i)
theorem pre_succ (m : Nat) (S : Nat → ByteArray) (k : Nat) : pre m S (k + 1) = pre m S k ++ [cutB m (S k)] := by simp [pre, List.range_succ]
theorem pre_size (m : Nat) (S : Nat → ByteArray) (k : Nat) : ∀ b ∈ pre m S k, b.size ≤ m := fun b hb => by
  obtain ⟨i, _, rfl⟩ := List.mem_map.1 hb
  exact cutB_size m _
theorem pre_len (m : Nat) (S : Nat → ByteArray) (k : Nat) : (pre m S k).length = k := by simp [pre]
theorem spoilt_none {D : DiskV} {n : ByteArray} {i : Nat} (h : Holds D n i []) (bit : Int) : spoilD D n bit = D := by
  have h2 := data_calm h
  have h3 := congrArg List.length h2
  rw [ba_size] at h3
  unfold spoilD
  rw [h.1]
  simp only
  rw [if_pos (by simpa [frasB, bl] using h3)]
theorem spoilt_read {D : DiskV} {n : ByteArray} {i : Nat} {l : List ByteArray} (hc : Calm D) (h : Holds D n i l) (hl : ∀ b ∈ l, b.size ≤ 65535) (hne : l ≠ []) (bit : Int) :
    (readD (spoilD D n bit) n).2 = 0 ∧ ((allF (readD (spoilD D n bit) n).1.data.toList).2 = 4 ∨ (allF (readD (spoilD D n bit) n).1.data.toList).2 = 6) := by
  have h2 := data_calm h
  have h3 := congrArg List.length h2
  rw [ba_size] at h3
  have hpos : 0 < (frasB (bl l)).length := by
    cases l with
    | nil => exact absurd rfl hne
    | cons b r =>
      have e : frasB (bl (b :: r)) = fraB b.data.toList ++ frasB (bl r) := by simp [frasB, bl]
      rw [e, List.length_append, fraB_len]
      omega
  obtain ⟨h1, f, hf, hd⟩ := h
  have hdat : dataOf D i = f.data := by unfold dataOf; rw [hf]
  have hsp : spoilD D n bit = setF D i (fun f => ⟨spoilB f.data bit, f.lasts⟩) := by
    unfold spoilD
    rw [h1]
    simp only
    rw [if_neg (by omega)]
  have hrd : readD (spoilD D n bit) n = (spoilB f.data bit, 0) := by
    rw [hsp]
    unfold readD
    have e1 : (setF D i (fun f => ⟨spoilB f.data bit, f.lasts⟩)).off = false := hc.off
    have e2 : look (setF D i (fun f => ⟨spoilB f.data bit, f.lasts⟩)).names n = some i := h1
    rw [e1, e2]
    simp [dataOf, setF, hf]
  rw [hrd]
  refine ⟨rfl, ?_⟩
  obtain ⟨A, x, B, y, g1, g2, g3⟩ := spoil_at f.data bit (by rw [← hdat]; omega)
  simp only
  rw [g2]
  exact all_spoilt hl (by rw [← hd]; exact g1) g3
def bk1 : DiskV := (createW (startD 1099511627776) (logN 1)).2
theorem bk_res : (createW (startD 1099511627776) (logN 1)).1 = 0 ∧ bk1.off = false ∧ bk1.cutL = 0 ∧ bk1.fullL = 0 ∧ bk1.room = 1099511627776 ∧ bk1.names = [(logN 1, 0)] ∧ (bk1.files.map fun f => f.data) = [⟨#[]⟩] := by
  refine ⟨?_, ?_, ?_, ?_, ?_, ?_, ?_⟩ <;> decide +kernel
theorem bk_calm : Calm bk1 := ⟨bk_res.2.1, bk_res.2.2.1, bk_res.2.2.2.1, bk_res.2.2.2.2.1, by rw [bk_res.2.2.2.2.2.1]; decide⟩
theorem bk_holds : Holds bk1 (logN 1) 0 [] := by
  have h := bk_res.2.2.2.2.2.2
  refine ⟨by rw [bk_res.2.2.2.2.2.1]; rfl, ?_⟩
  cases hf : bk1.files with
  | nil => rw [hf] at h; simp at h
  | cons f r =>
    rw [hf] at h
    have : f.data = ⟨#[]⟩ := by
      simp only [List.map_cons] at h
      injection h
    exact ⟨f, rfl, by rw [this]; rfl⟩

set_option maxRecDepth 100000 in
set_option maxHeartbeats 4000000 in
theorem wal_bits (A : Option Addr) (n c : Nat) (S : Nat → ByteArray) (bit : Int) (w : World) (hb1 : -9223372036854775808 ≤ bit) (hb2 : bit ≤ 9223372036854775807) (hn : n ≤ c) (hc : c ≤ maxLen) (hS : StrsAt w A n S) (hsz : ∀ i, (S i).size ≤ maxLen) :
    Calls Tryd.prog 4 #[.slice A n c, .int .i64 bit] w fun e w' => e = .returned (.bool true) ∧ Chg (fun _ => False) w w' := by
  unfold maxLen at hc hsz
  have hnew := st_new 1099511627776 (by omega) w
  have HNEW := Lib.hid hnew
  have HS := Lib.hid hS
  have HSZ := Lib.hid hsz
  clear hnew hS hsz
  obtain ⟨q, hq1, hq2, hq3⟩ : ∃ q : Nat, q ≤ n ∧ q ≤ 10 ∧ (q = n ∨ q = 10) := ⟨min n 10, by omega, by omega, by omega⟩
  go_enter Tryd.func4, Tryd.ntmps4
  go_wp2_with fail
  refine HNEW.out.mono ?_
  rintro e w1 ⟨rfl, hd1⟩
  have hd1 := DY.of hd1
  obtain ⟨d, hd⟩ : ∃ d, w.heap.size + 2 = d := ⟨_, rfl⟩
  rw [hd] at hd1 ⊢
  have H1 := Lib.hid hd1
  clear hd hd1
  go_wp2_with fail
  refine (wal_wakes _).mono ?_
  rintro e w2 ⟨rfl, hc2⟩
  have hcr := wal_create 1 0 (by omega) d (startD 1099511627776) _ w w2 (p_bsm_start _) (by omega) (H1.out.same hc2)
  rw [show ((1 : Nat) : Int) = 1 from rfl] at hcr
  have HCR := Lib.hid hcr
  clear hcr hc2
  go_wp2_with fail
  refine HCR.out.mono ?_
  rintro e w3 ⟨rfl, hd3, _⟩
  rw [bk_res.1]
  have H3 := Lib.hid hd3
  clear hd3
  go_upto_region 4 with fail
  go_cut [0] (fun s wx => (∃ c', s = .slice A q c') ∧ w3 = wx)
  case first =>
    go_wp2_with fail
    all_goals go_meet
    all_goals exact ⟨⟨c, by rw [show (min (n : Int) 10).toNat = q by omega]⟩, rfl⟩
  case rest =>
    obtain ⟨⟨c', rfl⟩, rfl⟩ := hcut
    have hmin : ∀ (s : ByteArray) (w : World), (Instr.slice 9 (.string s) none (some (.int .i64 (min (s.size : Int) 500))) none).run Tryd.prog w = .ok (.string (cutB 500 s)) w := fun s w => run_cutB 500 s w
    go_wp2_with fail
    go_loopw [27] (fun i wr => ∃ (k : Nat) (D : DiskV), k ≤ q ∧ i = .int .i64 k ∧ Calm D ∧ Holds D (logN 1) 0 (pre 500 S k) ∧ PSm (2 * k + 2) D ∧ DY w wr d D (fun _ => False)) (fun i _ => q - (intOf i).toNat)
    case atStart => exact ⟨0, bk1, by omega, rfl, bk_calm, bk_holds, psm_create _ (p_bsm_start _), H3.out⟩
    case round =>
      obtain ⟨k, D, hk, rfl, hcalm, hh, hps, hdy⟩ := hrel
      by_cases hlt : k < q
      · obtain ⟨b, off, rfl, hbl, hcell⟩ := HS.out (by omega)
        have x0 := hcell k (by omega)
        have x0 := (hdy.frame.cell (p := ⟨b, _, none⟩) hbl (by simp)).trans x0
        have hk1 : (k : Int) < (q : Int) := by omega
        have hk0 : (0 : Int) ≤ (k : Int) := by omega
        obtain ⟨s, hs⟩ : ∃ s, S k = s := ⟨_, rfl⟩
        have hszk := HSZ.out k
        rw [hs] at x0 hszk
        have hap := append_calm hcalm hdy.ok hh (cutB 500 s) (by have := cutB_size 500 s; omega) (by
          have h1 := fras_len (pre_size 500 S k)
          rw [pre_len] at h1
          have h2 := cutB_size 500 s
          have h3 : k * (8 + 500) ≤ 10 * 508 := Nat.mul_le_mul (by omega) (by omega)
          omega)
        have hca := wal_append 1 (2 * k + 2) (by omega) (cutB 500 s) (by have := cutB_size 500 s; omega) d D _ w wr hps (by omega) hdy
        have hpn := psm_append (logN 1) (cutB 500 s) hps
        have hn2 := appended_holds hh (cutB 500 s)
        have hc2 := appended_calm hcalm 0 (cutB 500 s)
        rw [← hs, ← pre_succ, hs] at hn2
        rw [hap] at hpn hca
        have HCA := Lib.hid hca
        have HPN := Lib.hid hpn
        have HN2 := Lib.hid hn2
        have HC2 := Lib.hid hc2
        clear hcell hs hap hca hpn hn2 hc2 hcalm hh hps hdy
        go_wp2_with fail
        refine HCA.out.mono ?_
        rintro e w4 ⟨rfl, hd4, _⟩
        have HD4 := Lib.hid hd4
        clear hd4
        go_wp2_with fail
        go_roundw
        case rel => exact ⟨k + 1, _, by omega, by go_num, HC2.out, HN2.out, (show 2 * k + 2 + 2 = 2 * (k + 1) + 2 by omega) ▸ HPN.out, HD4.out⟩
        case measure => simp [intOf]; omega
      · obtain rfl : k = q := by omega
        have hsp : Calls Tryd.prog 12 #[.pointer (some ⟨d, 0, none⟩), .string ⟨#[108, 111, 103, 45, 48, 48, 48, 48, 48, 48, 48, 49]⟩, .int .i64 bit] wr fun e w' => e = .returned (.tuple #[]) ∧ DY w w' d (spoilD D (logN 1) bit) (fun _ => False) ∧ Kept (fun _ => False) wr w' :=
          y_spoil w d D _ (logN 1) (logN_size 1) wr hdy bit hb1 hb2
        have HSP := Lib.hid hsp
        have HCALM := Lib.hid hcalm
        have HH := Lib.hid hh
        clear hsp hcalm hh hps hdy hmin
        go_wp2_with fail
        refine HSP.out.mono ?_
        rintro e w4 ⟨rfl, hd4, _⟩
        have hrd := wal_read 1 (by omega) d _ _ w w4 hd4
        have HRD := Lib.hid hrd
        have HFR := Lib.hid hd4.frame
        clear hrd hd4
        go_wp2_with fail
        refine HRD.out.mono ?_
        rintro e w5 ⟨hr, hc5⟩
        have HC5 := Lib.hid (HFR.out.then hc5)
        clear hc5
        by_cases hk0 : k = 0
        · subst hk0
          have hl0 : pre 500 S 0 = [] := rfl
          have hh0 := HH.out
          rw [hl0] at hh0
          have hsn := spoilt_none hh0 bit
          obtain ⟨g1, g2⟩ := read_calm HCALM.out hh0
          have hall : allF (frasB (bl [])) = ([], 10) := all_nil
          rw [hsn, g1] at hr
          simp only [g2, hall] at hr
          rcases hr with ⟨h, _⟩ | ⟨_, h, _⟩ | ⟨_, _, _, v, l, rfl, hL, hbl⟩
          · exact absurd rfl h
          · omega
          · have hl : l = [] := bl_inj (m := []) hbl
            subst hl
            obtain ⟨a, cap, rfl, _⟩ := str_form hL
            clear hL hbl hsn g1 g2 hall hh0 hl0
            go_wp2_with fail
            go_ret
            exact ⟨rfl, HC5.out⟩
        · have hne : pre 500 S k ≠ [] := fun e => by
            have := pre_len 500 S k
            rw [e] at this
            exact hk0 this.symm
          obtain ⟨g1, g2⟩ := spoilt_read HCALM.out HH.out (fun b hb => by have := pre_size 500 S k b hb; omega) hne bit
          rw [g1] at hr
          have hk1 : ((k : Int) == 0) = false := by simp; omega
          have hk2 : ((k : Int) != 0) = true := by simp; omega
          rcases hr with ⟨h, _⟩ | ⟨_, h, rfl⟩ | ⟨_, h1, h2, _⟩
          · exact absurd rfl h
          · clear g1 g2 hne h
            go_wp2_with fail
            go_ret
            exact ⟨rfl, HC5.out⟩
          · exfalso
            rcases g2 with g | g
            · exact h1 g
            · exact h2 g
end Go.Proofs.YtjfbcjmnjlehaaaDoor
