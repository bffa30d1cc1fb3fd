/-
  The walk of WalPlays.
-/
import Derived.Test.YtjfbcjmnjlehaaaGreatDoorZMg39
import Derived.Test.YtjfbcjmnjlehaaaGreatDoorZMg00
import Derived.Test.YtjfbcjmnjlehaaaGreatDoorZDiskBd
import Derived.Test.YtjfbcjmnjlehaaaGreatDoorZDiskBe
import Derived.Test.YtjfbcjmnjlehaaaGreatDoorZMg19
import Derived.Deep.DeepCutAuto
namespace Go.Proofs.YtjfbcjmnjlehaaaGreatDoor
open Go.RowKit
set_option linter.unusedVariables false
set_option linter.unusedSimpArgs false

def sRow (Wh Lg : Nat → Int) (Bd : Nat → ByteArray) (Do N M : Nat → Int) (A B : Nat → ByteArray) (bv : Nat → Value) (i j : Nat) : Value :=
  match j with | 0 => .int .i64 (Wh i) | 1 => .int .i64 (Lg i) | 2 => .string (Bd i) | 3 => .int .i64 (Do i) | 4 => .string (A i) | 5 => .string (B i) | 6 => .int .i64 (N i) | 7 => .int .i64 (M i) | _ => bv i
theorem both_new2 {w0 w1 w2 : World} {d : Nat} {D : DiskV} (h : DState w0 w1 d D) (hr : RAt w2 w1.heap.size D (fun k => k = w1.heap.size)) (hc : Chg (fun _ => False) w1 w2) : Both w0 w2 d w1.heap.size (fun _ _ => False) D D (fun _ => False) := by
  obtain ⟨ids, M, ha, hM, hc0⟩ := h
  have hs := hc0.size
  refine ⟨ids, M, _, ha.same hc, hr, fun k hk e => ?_, fun k hk => ?_, hc0.then hc, fun k hk => hk.elim, fun k o hk => hk.elim⟩
  · have := ha.lt k hk
    omega
  · rcases hk with e | e
    · exact hM k e
    · omega
def WatchS (g : Nat) (cs : Array Value) (k : Nat) (o : Obj) : Prop := k = g ∧ o = .cells cs 37 (0, 0)
theorem watchS_cell {w0 w : World} {d r g : Nat} {cs : Array Value} {D1 D2 : DiskV} {X : Nat → Prop} (h : Both w0 w d r (WatchS g cs) D1 D2 X) (i : Nat) : w.cell? ⟨g, i, none⟩ = cs[i]? := cell_of_row w g i cs _ (0, 0) (h.holds ⟨rfl, rfl⟩)
/-- What Read tells, as plain data. -/
def rdV (D : DiskV) (nm : ByteArray) : List ByteArray × Bool × Int :=
  if nm.toList.isEmpty = true then ([], false, 2) else if (readD D nm).2 ≠ 0 then ([], false, (readD D nm).2) else
  if (allF (readD D nm).1.data.toList).2 = 4 ∨ (allF (readD D nm).1.data.toList).2 = 6 then ([], false, 6) else
  ((allF (readD D nm).1.data.toList).1.map fun x => ⟨x.toArray⟩, decide ((allF (readD D nm).1.data.toList).2 = 3), 0)
theorem bl_map (l : List (List UInt8)) : bl (l.map fun x => ⟨x.toArray⟩) = l := by
  unfold bl
  rw [List.map_map]
  have : ((fun b : ByteArray => b.data.toList) ∘ fun x : List UInt8 => (⟨x.toArray⟩ : ByteArray)) = id := by funext x; simp
  rw [this, List.map_id]
theorem bl_inj2 : ∀ {l m : List ByteArray}, bl l = bl m → l = m
  | [], [], _ => rfl
  | [], _ :: _, h => by simp [bl] at h
  | _ :: _, [], h => by simp [bl] at h
  | a :: l, b :: m, h => by
    have h' : a.data.toList :: bl l = b.data.toList :: bl m := h
    injection h' with h1 h2
    rw [show a = b from ByteArray.ext (Array.ext' h1), bl_inj2 h2]
theorem rd_plain {w w' : World} {D : DiskV} {nm : ByteArray} {e : Ending} (h : RdPost w D nm e w') : ∃ v, e = .returned (.tuple #[v, .bool (rdV D nm).2.1, .int .i64 (rdV D nm).2.2]) ∧ Lst strC w' v (rdV D nm).1 ∧ Chg (fun _ => False) w w' := by
  unfold rdV
  rcases h with ⟨h1, he, hc⟩ | ⟨h1, h2, hc⟩
  · rw [if_pos h1]
    exact ⟨_, he, Lst.nil _ _, hc⟩
  · rw [if_neg (by rw [h1]; decide)]
    rcases h2 with ⟨h3, he⟩ | ⟨h3, h4, he⟩ | ⟨h3, h4, h5, v, l, he, hL, hb⟩
    · rw [if_pos h3]
      exact ⟨_, he, Lst.nil _ _, hc⟩
    · rw [if_neg (fun e => e h3), if_pos h4]
      exact ⟨_, he, Lst.nil _ _, hc⟩
    · rw [if_neg (fun e => e h3), if_neg (fun e => e.elim h4 h5)]
      have hl : l = (allF (readD D nm).1.data.toList).1.map fun x => ⟨x.toArray⟩ := bl_inj2 (by rw [bl_map]; exact hb)
      subst hl
      exact ⟨v, he, hL, hc⟩
theorem run_preU (A : Option Addr) (n c q : Nat) (e : min (n : Int) 60 = (q : Int)) (hq : q ≤ c) (w : World) : (Instr.slice 28 (.slice A n c) none (some (.int .i64 (min (n : Int) 60))) none).run Tryz.prog w = .ok (.slice A q c) w := by
  have h2 : (q : Int) ≤ (c : Int) := by omega
  have hs : (sizeOf (Tryz.prog.elem 28)).run Tryz.prog w = .ok 9 w := by kernel_rfl
  rw [e, run_slice_h w 28 A n c (by kernel_rfl) .i64 (q : Int) (by omega) h2, hs]
  cases A with
  | none => simp [Result.andThen, sliced]
  | some v =>
    have : v.add 0 = v := by
      obtain ⟨b, o, s⟩ := v
      cases s <;> simp [Addr.add]
    simp [Result.andThen, sliced, this]
set_option maxRecDepth 100000 in
set_option maxHeartbeats 8000000 in
theorem wal_plays (room : Int) (A : Option Addr) (n c : Nat) (Wh Lg Do N M : Nat → Int) (Bd S T : Nat → ByteArray) (bv : Nat → Value) (L : Nat → List Int) (hroom : room ≤ 9223372036854775807) (hWh : ∀ i, In64 (Wh i)) (hLg : ∀ i, In64 (Lg i)) (hN : ∀ i, In64 (N i)) (hM : ∀ i, In64 (M i)) (hB : ∀ i, (Bd i).size ≤ 140737488355328) (hS : ∀ i, (S i).size ≤ 140737488355328) (hT : ∀ i, (T i).size ≤ 140737488355328) (w : World) (hn : n ≤ 9223372036854775807) (hnc : n ≤ c)
    (hL : ∀ i, i < n → RInts w (bv i) (L i) ∧ (L i).length ≤ 17592186044416) (hs : Rec w w.heap.size 9 A n (sRow Wh Lg Bd Do N M S T bv)) (ht : Tab w) :
    Calls Tryz.prog 4 #[.int .i64 room, .slice A n c] w fun e w' => e = .returned (.bool true) ∧ Chg (fun _ => False) w w' := by
  have HR := Lib.hid hs
  have HWH := Lib.hid hWh
  have HLG := Lib.hid hLg
  have HN := Lib.hid hN
  have HM := Lib.hid hM
  have HB := Lib.hid hB
  have HS := Lib.hid hS
  have HT := Lib.hid hT
  have HL := Lib.hid hL
  have HTAB := Lib.hid ht
  clear hs hWh hLg hN hM hB hS hT hL ht
  go_enter Tryz.func4, Tryz.ntmps4
  go_wp2_with fail
  refine (st_new room hroom w).mono ?_
  rintro e w1 ⟨rfl, h1⟩
  have H1 := Lib.hid h1
  clear h1
  go_wp2_with fail
  refine (rd_new room hroom w1).mono ?_
  rintro e w2 ⟨rfl, hr2, hc2, _⟩
  have hb2 := both_new2 H1.out hr2 hc2
  have HB2 := Lib.hid hb2
  clear hr2 hc2 hb2 H1
  generalize w1.heap.size = r at *
  generalize w.heap.size + 2 = d at *
  go_wp2_with fail
  refine (wal_wakes w2).mono ?_
  rintro e w3 ⟨rfl, hc3⟩
  have HB3 := Lib.hid (HB2.out.same hc3)
  clear hc3
  obtain ⟨q, hq1, hq2, hq3⟩ : ∃ q : Nat, q ≤ n ∧ q ≤ 60 ∧ min (n : Int) 60 = (q : Int) := ⟨min n 60, by omega, by omega, by omega⟩
  have hpre : ∀ w : World, (Instr.slice 28 (.slice A n c) none (some (.int .i64 (min (n : Int) 60))) none).run Tryz.prog w = .ok (.slice A q c) w := fun w => run_preU A n c q hq3 (by omega) w
  clear hq3
  go_wp2_with fail
  go_loopw [29] (fun i wr => ∃ (k : Nat) (D : DiskV), k ≤ q ∧ i = .int .i64 k ∧ BSm (2 * k) D ∧ Both w wr d r (fun _ _ => False) D D (fun _ => False)) (fun i _ => q - (intOf i).toNat)
  case atStart => exact ⟨0, _, by omega, rfl, bsm_start room, HB3.out⟩
  case round =>
    obtain ⟨k, D, hk, rfl, hbs, hB⟩ := hrel
    have hcc := hB.frame
    by_cases hlt : k < q
    · obtain ⟨b, off, rfl, hbB, hcell⟩ := HR.out (by omega)
      have x0 := (hcc.cell (p := ⟨b, _, none⟩) hbB (by simp)).trans (hcell k (by omega) 0 (by omega))
      have x1 := (hcc.cell (p := ⟨b, _, none⟩) hbB (by simp)).trans (hcell k (by omega) 1 (by omega))
      have x2 := (hcc.cell (p := ⟨b, _, none⟩) hbB (by simp)).trans (hcell k (by omega) 2 (by omega))
      have x3 := (hcc.cell (p := ⟨b, _, none⟩) hbB (by simp)).trans (hcell k (by omega) 3 (by omega))
      have x4 := (hcc.cell (p := ⟨b, _, none⟩) hbB (by simp)).trans (hcell k (by omega) 4 (by omega))
      have x5 := (hcc.cell (p := ⟨b, _, none⟩) hbB (by simp)).trans (hcell k (by omega) 5 (by omega))
      have x6 := (hcc.cell (p := ⟨b, _, none⟩) hbB (by simp)).trans (hcell k (by omega) 6 (by omega))
      have x7 := (hcc.cell (p := ⟨b, _, none⟩) hbB (by simp)).trans (hcell k (by omega) 7 (by omega))
      have x8 := (hcc.cell (p := ⟨b, _, none⟩) hbB (by simp)).trans (hcell k (by omega) 8 (by omega))
      simp only [Nat.add_zero, sRow] at x0 x1 x2 x3 x4 x5 x6 x7 x8
      have hk0 : (0 : Int) ≤ (k : Int) := by omega
      have hk1 : (k : Int) < (q : Int) := by omega
      obtain ⟨hr1, hl1⟩ := HL.out k (by omega)
      obtain ⟨sa, sc, hbv, _⟩ := hr1
      have hri := fun W (hW : Chg (fun _ => False) w W) => (HL.out k (by omega)).1.keep hW
      rw [hbv] at x8 hri
      have HRI := Lib.hid hri
      have HBS := Lib.hid hbs
      have HBB := Lib.hid hB
      have HCC := Lib.hid hcc
      clear hcell hB hcc hbs hri hbv
      go_upto_region 8 with fail
      obtain ⟨W1, hW1⟩ : ∃ W1, W1 = wr.alloc (.cells #[.int .i64 (Wh k), .int .i64 (Lg k), .string (Bd k), .int .i64 (Do k), .string (S k), .string (T k), .int .i64 (N k), .int .i64 (M k), .slice sa (L k).length sc] 37) := ⟨_, rfl⟩
      have hc1 : Chg (fun _ => False) wr W1 := by rw [hW1]; ((repeat (first | exact Chg.refl _ _ | assumption | refine Chg.drewN ?_ _ | refine Chg.drew ?_ | refine Chg.alloc ?_ _ | refine Chg.setCell ?_ (by first | (simp; done) | (simp; omega) | (intro h; simp at h; omega)) _)))
      have hb1 : Blk W1 wr.heap.size 37 #[.int .i64 (Wh k), .int .i64 (Lg k), .string (Bd k), .int .i64 (Do k), .string (S k), .string (T k), .int .i64 (N k), .int .i64 (M k), .slice sa (L k).length sc] := by rw [hW1]; exact Blk.new _ _ _
      rw [← hW1]
      obtain ⟨g, hg⟩ : ∃ g, wr.heap.size = g := ⟨_, rfl⟩
      have hkeep : Both w W1 d r (WatchS wr.heap.size #[.int .i64 (Wh k), .int .i64 (Lg k), .string (Bd k), .int .i64 (Do k), .string (S k), .string (T k), .int .i64 (N k), .int .i64 (M k), .slice sa (L k).length sc]) D D (fun _ => False) := HBB.out.keep hc1 (fun k hk => hk.elim) (fun k o hk => by
        obtain ⟨rfl, rfl⟩ := hk
        exact ⟨Nat.le_refl _, hb1, fun e => e⟩)
      rw [hg] at hb1 hkeep ⊢
      have hgl := hb1.lt
      have HW := Lib.hid hkeep
      have y0 := hb1.cell 0
      have y1 := hb1.cell 1
      have y2 := hb1.cell 2
      have y3 := hb1.cell 3
      have y4 := hb1.cell 4
      have y5 := hb1.cell 5
      have y6 := hb1.cell 6
      have y7 := hb1.cell 7
      have y8 := hb1.cell 8
      simp at y0 y1 y2 y3 y4 y5 y6 y7 y8
      have hlg := HLG.out k
      have hbz := HB.out k
      have hsz := HS.out k
      have htz := HT.out k
      have hnz := HN.out k
      have hmz := HM.out k
      have HL1 := Lib.hid hl1
      clear hW1 hc1 hb1 hkeep hg HBB HCC HR x0 x1 x2 x3 x4 x5 x6 x7 x8 hl1
      obtain ⟨Z, hZ⟩ : ∃ Z, WatchS g #[.int .i64 (Wh k), .int .i64 (Lg k), .string (Bd k), .int .i64 (Do k), .string (S k), .string (T k), .int .i64 (N k), .int .i64 (M k), .slice sa (L k).length sc] = Z := ⟨_, rfl⟩
      have hzc : ∀ W D1 D2, Both w W d r Z D1 D2 (fun _ => False) → W.cell? ⟨g, 1, none⟩ = some (.int .i64 (Lg k)) ∧ W.cell? ⟨g, 2, none⟩ = some (.string (Bd k)) := fun W D1 D2 h => by
        rw [← hZ] at h
        exact ⟨watchS_cell h 1, watchS_cell h 2⟩
      rw [hZ] at HW
      have HZC := Lib.hid hzc
      clear hzc hZ
      have ways : (Wh k).tmod 5 = 0 ∨ (Wh k).tmod 5 = 1 ∨ (Wh k).tmod 5 = -1 ∨ (Wh k).tmod 5 = 2 ∨ (Wh k).tmod 5 = -2 ∨ (Wh k).tmod 5 = 3 ∨ (Wh k).tmod 5 = -3 ∨ (Wh k).tmod 5 = 4 ∨ (Wh k).tmod 5 = -4 := by
        have h1 := Int.tmod_lt_of_pos (Wh k) (show (0 : Int) < 5 by decide)
        have h2 : -5 < (Wh k).tmod 5 := by
          rcases Int.le_total 0 (Wh k) with e | e
          · have := Int.tmod_nonneg 5 e; omega
          · have h1 := Int.neg_tmod (a := Wh k) (b := 5)
            have h2 := Int.tmod_lt_of_pos (-(Wh k)) (show (0 : Int) < 5 by decide)
            omega
        omega
      have tail : ∀ D' W, BSm (2 * k + 2) D' → Both w W d r (fun _ _ => False) D' D' (fun _ => False) → Calls Tryz.prog 22 #[.pointer (some ⟨d, 0, none⟩), .pointer (some ⟨r, 0, none⟩)] W fun e w' => e = .returned (.bool true) ∧ Both w w' d r (fun _ _ => False) D' D' (fun _ => False) := fun D' W h1 h2 => (ld_same w d r D' (2 * k + 2) (by omega) h1 W h2).mono fun e w' ⟨he, hc⟩ => ⟨he, h2.same hc⟩
      have HTAIL := Lib.hid tail
      clear tail
      have HK := Lib.hid (show k < q from hlt)
      rcases ways with hw | hw | hw | hw | hw | hw | hw | hw | hw
      · obtain ⟨E, D', hE⟩ : ∃ E D', orArg (logB (Lg k)) D (createW D (logB (Lg k))) = (E, D') := ⟨_, _, rfl⟩
        have hca := fun W (h : Both w W d r Z D D (fun _ => False)) => bw_create w d r Z D D (fun _ => False) (2 * k) (Lg k) W h HTAB.out hlg.1 hlg.2 HBS.out (by omega)
        have hcb := fun W (h : Both w W d r Z D' D (fun _ => False)) => bx_create w d r Z D' D (fun _ => False) (2 * k) (Lg k) W h hlg.1 hlg.2 HBS.out (by omega)
        have hbs' := bsm_orArg (2 * k) D (logB (Lg k)) _ HBS.out (bsm_createW (2 * k) D (logB (Lg k)) HBS.out)
        rw [hE] at hbs'
        simp only [hE] at hca hcb
        have HCA := Lib.hid hca
        have HCB := Lib.hid hcb
        have HBS' := Lib.hid hbs'
        clear hca hcb hbs' hE HWH HLG HN HM HB HS HT HL hlg hbz hsz htz hnz hmz y2 y3 y4 y5 y6 y7 y8 HL1 HRI
        go_wp2_with fail
        go_region_held3 (fun w' => w'.cell? ⟨g, 1, none⟩ = some (.int .i64 (Lg k)))
          (first | (go_keep; done))
          (first
            | (go_at_call 13; refine (HCA.out _ (HW.out.same (by ((repeat (first | exact Chg.refl _ _ | assumption | refine Chg.drewN ?_ _ | refine Chg.drew ?_ | refine Chg.alloc ?_ _ | refine Chg.setCell ?_ (by first | (simp; done) | (simp; omega) | (intro h; simp at h; omega)) _)))))).mono ?_; rintro e wa ⟨rfl, hba⟩; have HBa := Lib.hid hba; have ka := (HZC.out _ _ _ hba).1; clear hba)
            | (go_at_call 14; refine (HCB.out _ (HBa.out.same (by ((repeat (first | exact Chg.refl _ _ | assumption | refine Chg.drewN ?_ _ | refine Chg.drew ?_ | refine Chg.alloc ?_ _ | refine Chg.setCell ?_ (by first | (simp; done) | (simp; omega) | (intro h; simp at h; omega)) _)))))).mono ?_; rintro e wb ⟨rfl, hbb⟩; have HBb := Lib.hid hbb; have kb := (HZC.out _ _ _ hbb).1; clear hbb))
        go_wp2_with fail
        refine (HTAIL.out D' _ HBS'.out (HBb.out.drop.same (by ((repeat (first | exact Chg.refl _ _ | assumption | refine Chg.drewN ?_ _ | refine Chg.drew ?_ | refine Chg.alloc ?_ _ | refine Chg.setCell ?_ (by first | (simp; done) | (simp; omega) | (intro h; simp at h; omega)) _)))))).mono ?_
        rintro e w5 ⟨rfl, hb5⟩
        have HB5 := Lib.hid hb5
        clear hb5
        go_wp2_with fail
        exact ⟨⟨k + 1, D', by omega, by go_num, HBS'.out, HB5.out⟩, by simp [intOf]; omega⟩
      · obtain ⟨E, D', hE⟩ : ∃ E D', orArg (logB (Lg k)) D (appendW D (logB (Lg k)) (Bd k)) = (E, D') := ⟨_, _, rfl⟩
        have hca := fun W (h : Both w W d r Z D D (fun _ => False)) => bw_append w d r Z D D (fun _ => False) (2 * k) (Lg k) W h HTAB.out hlg.1 hlg.2 (Bd k) hbz HBS.out (by omega)
        have hcb := fun W (h : Both w W d r Z D' D (fun _ => False)) => bx_append w d r Z D' D (fun _ => False) (2 * k) (Lg k) W h hlg.1 hlg.2 (Bd k) hbz HBS.out (by omega)
        have hbs' := bsm_orArg (2 * k) D (logB (Lg k)) _ HBS.out (bsm_appendW (2 * k) D (logB (Lg k)) (Bd k) HBS.out)
        rw [hE] at hbs'
        simp only [hE] at hca hcb
        have HCA := Lib.hid hca
        have HCB := Lib.hid hcb
        have HBS' := Lib.hid hbs'
        clear hca hcb hbs' hE HWH HLG HN HM HB HS HT HL hlg hbz hsz htz hnz hmz y3 y4 y5 y6 y7 y8 HL1 HRI
        go_wp2_with fail
        go_region_held3 (fun w' => w'.cell? ⟨g, 1, none⟩ = some (.int .i64 (Lg k)) ∧ w'.cell? ⟨g, 2, none⟩ = some (.string (Bd k)))
          (first | (go_keep; done))
          (first
            | (go_at_call 15; refine (HCA.out _ (HW.out.same (by ((repeat (first | exact Chg.refl _ _ | assumption | refine Chg.drewN ?_ _ | refine Chg.drew ?_ | refine Chg.alloc ?_ _ | refine Chg.setCell ?_ (by first | (simp; done) | (simp; omega) | (intro h; simp at h; omega)) _)))))).mono ?_; rintro e wa ⟨rfl, hba⟩; have HBa := Lib.hid hba; have ka := (HZC.out _ _ _ hba).1; have ka2 := (HZC.out _ _ _ hba).2; clear hba)
            | (go_at_call 16; refine (HCB.out _ (HBa.out.same (by ((repeat (first | exact Chg.refl _ _ | assumption | refine Chg.drewN ?_ _ | refine Chg.drew ?_ | refine Chg.alloc ?_ _ | refine Chg.setCell ?_ (by first | (simp; done) | (simp; omega) | (intro h; simp at h; omega)) _)))))).mono ?_; rintro e wb ⟨rfl, hbb⟩; have HBb := Lib.hid hbb; have kb := (HZC.out _ _ _ hbb).1; have kb2 := (HZC.out _ _ _ hbb).2; clear hbb))
        go_wp2_with fail
        refine (HTAIL.out D' _ HBS'.out (HBb.out.drop.same (by ((repeat (first | exact Chg.refl _ _ | assumption | refine Chg.drewN ?_ _ | refine Chg.drew ?_ | refine Chg.alloc ?_ _ | refine Chg.setCell ?_ (by first | (simp; done) | (simp; omega) | (intro h; simp at h; omega)) _)))))).mono ?_
        rintro e w5 ⟨rfl, hb5⟩
        have HB5 := Lib.hid hb5
        clear hb5
        go_wp2_with fail
        exact ⟨⟨k + 1, D', by omega, by go_num, HBS'.out, HB5.out⟩, by simp [intOf]; omega⟩
      · obtain ⟨E, D', hE⟩ : ∃ E D', orArg (logB (Lg k)) D (appendW D (logB (Lg k)) (Bd k)) = (E, D') := ⟨_, _, rfl⟩
        have hca := fun W (h : Both w W d r Z D D (fun _ => False)) => bw_append w d r Z D D (fun _ => False) (2 * k) (Lg k) W h HTAB.out hlg.1 hlg.2 (Bd k) hbz HBS.out (by omega)
        have hcb := fun W (h : Both w W d r Z D' D (fun _ => False)) => bx_append w d r Z D' D (fun _ => False) (2 * k) (Lg k) W h hlg.1 hlg.2 (Bd k) hbz HBS.out (by omega)
        have hbs' := bsm_orArg (2 * k) D (logB (Lg k)) _ HBS.out (bsm_appendW (2 * k) D (logB (Lg k)) (Bd k) HBS.out)
        rw [hE] at hbs'
        simp only [hE] at hca hcb
        have HCA := Lib.hid hca
        have HCB := Lib.hid hcb
        have HBS' := Lib.hid hbs'
        clear hca hcb hbs' hE HWH HLG HN HM HB HS HT HL hlg hbz hsz htz hnz hmz y3 y4 y5 y6 y7 y8 HL1 HRI
        go_wp2_with fail
        go_region_held3 (fun w' => w'.cell? ⟨g, 1, none⟩ = some (.int .i64 (Lg k)) ∧ w'.cell? ⟨g, 2, none⟩ = some (.string (Bd k)))
          (first | (go_keep; done))
          (first
            | (go_at_call 15; refine (HCA.out _ (HW.out.same (by ((repeat (first | exact Chg.refl _ _ | assumption | refine Chg.drewN ?_ _ | refine Chg.drew ?_ | refine Chg.alloc ?_ _ | refine Chg.setCell ?_ (by first | (simp; done) | (simp; omega) | (intro h; simp at h; omega)) _)))))).mono ?_; rintro e wa ⟨rfl, hba⟩; have HBa := Lib.hid hba; have ka := (HZC.out _ _ _ hba).1; have ka2 := (HZC.out _ _ _ hba).2; clear hba)
            | (go_at_call 16; refine (HCB.out _ (HBa.out.same (by ((repeat (first | exact Chg.refl _ _ | assumption | refine Chg.drewN ?_ _ | refine Chg.drew ?_ | refine Chg.alloc ?_ _ | refine Chg.setCell ?_ (by first | (simp; done) | (simp; omega) | (intro h; simp at h; omega)) _)))))).mono ?_; rintro e wb ⟨rfl, hbb⟩; have HBb := Lib.hid hbb; have kb := (HZC.out _ _ _ hbb).1; have kb2 := (HZC.out _ _ _ hbb).2; clear hbb))
        go_wp2_with fail
        refine (HTAIL.out D' _ HBS'.out (HBb.out.drop.same (by ((repeat (first | exact Chg.refl _ _ | assumption | refine Chg.drewN ?_ _ | refine Chg.drew ?_ | refine Chg.alloc ?_ _ | refine Chg.setCell ?_ (by first | (simp; done) | (simp; omega) | (intro h; simp at h; omega)) _)))))).mono ?_
        rintro e w5 ⟨rfl, hb5⟩
        have HB5 := Lib.hid hb5
        clear hb5
        go_wp2_with fail
        exact ⟨⟨k + 1, D', by omega, by go_num, HBS'.out, HB5.out⟩, by simp [intOf]; omega⟩
      · have hca := fun W (h : Both w W d r Z D D (fun _ => False)) => bw_read w d r Z D D (fun _ => False) (Lg k) W h HTAB.out hlg.1 hlg.2
        have hcb := fun W (h : Both w W d r Z D D (fun _ => False)) => bx_read w d r Z D D (fun _ => False) (Lg k) W h hlg.1 hlg.2
        obtain ⟨nm, hnm⟩ : ∃ nm, logB (Lg k) = nm := ⟨_, rfl⟩
        simp only [hnm] at hca hcb
        obtain ⟨lv, hlv⟩ : ∃ lv, (rdV D nm).1 = lv := ⟨_, rfl⟩
        obtain ⟨bv', hbv'⟩ : ∃ bv', (rdV D nm).2.1 = bv' := ⟨_, rfl⟩
        obtain ⟨ev, hev⟩ : ∃ ev, (rdV D nm).2.2 = ev := ⟨_, rfl⟩
        have hpl : ∀ W e W', RdPost W D nm e W' → ∃ v, e = .returned (.tuple #[v, .bool bv', .int .i64 ev]) ∧ Lst strC W' v lv ∧ Chg (fun _ => False) W W' := fun W e W' h => by
          have := rd_plain h
          rw [hlv, hbv', hev] at this
          exact this
        have HCA := Lib.hid hca
        have HCB := Lib.hid hcb
        have HPL := Lib.hid hpl
        clear hca hcb hpl hlv hbv' hev hnm HWH HLG HN HM HB HS HT HL hlg hbz hsz htz hnz hmz y2 y3 y4 y5 y6 y7 y8 HL1 HRI
        go_wp2_with fail
        refine (HCA.out _ HW.out).mono ?_
        intro e wa hpa
        obtain ⟨va, rfl, hLa, hca⟩ := HPL.out _ _ _ hpa
        have hba := HW.out.same hca
        have ka := (HZC.out _ _ _ hba).1
        obtain ⟨aa, ac, rfl, hle, hlm, _⟩ := str_form hLa
        have HBa := Lib.hid hba
        have HLa := Lib.hid hLa
        clear hpa hca hba hLa y1
        go_wp2_with fail
        refine (HCB.out _ HBa.out).mono ?_
        intro e wb hpb
        obtain ⟨vb, rfl, hLb, hcb⟩ := HPL.out _ _ _ hpb
        have hbb := HBa.out.same hcb
        have hLa2 := HLa.out.same hcb
        obtain ⟨ba', bc', rfl, hle2, _, hrb⟩ := str_form hLb
        obtain ⟨aa2, ac2, hav, _, _, hra⟩ := str_form hLa2
        injection hav with ha1 ha2 ha3
        subst ha1
        obtain ⟨m, hm⟩ : ∃ m, lv.length = m := ⟨_, rfl⟩
        rw [hm] at hle hlm hle2 ⊢
        have HBb := Lib.hid hbb.drop
        have HRA := Lib.hid hra
        have HRB := Lib.hid hrb
        have HMM := Lib.hid hm
        clear hpb hcb hbb hLb hLa2 hrb hra ha2 ha3 ka hm HLa HBa
        have q1 : (ev == ev) = true := by simp
        have q2 : (bv' == bv') = true := by simp
        go_wp2_with fail
        go_loopw [9, 104] (fun o i wx => ∃ j : Nat, j ≤ m ∧ o = .bool true ∧ i = .int .i64 j ∧ Chg (fun _ => False) wb wx) (fun _ i _ => m - (intOf i).toNat)
        case atStart => exact ⟨0, by omega, by first | rfl | simp, rfl, Chg.refl _ _⟩
        case round =>
          obtain ⟨j, hj, rfl, rfl, hcj⟩ := hrel
          by_cases hjm : j < m
          · have hsp : lv = lv.take j ++ lv[j]'(by rw [HMM.out]; exact hjm) :: lv.drop (j + 1) := by
              rw [← List.drop_eq_getElem_cons, List.take_append_drop]
            obtain ⟨s, hs⟩ : ∃ s, lv[j]'(by rw [HMM.out]; exact hjm) = s := ⟨_, rfl⟩
            rw [hs] at hsp
            obtain ⟨b1, e1, hb1, _, z1⟩ := HRA.out _ _ _ hsp
            obtain ⟨b2, e2, hb2, _, z2⟩ := HRB.out _ _ _ hsp
            rw [List.length_take, HMM.out, Nat.min_eq_left (by omega)] at z1 z2
            subst e1 e2
            have z1 := (hcj.cell (p := ⟨b1, _, none⟩) hb1 (by simp)).trans z1
            have z2 := (hcj.cell (p := ⟨b2, _, none⟩) hb2 (by simp)).trans z2
            have hqq : (s.toList == s.toList) = true := by simp
            have hj0 : (0 : Int) ≤ (j : Int) := by omega
            have hj1 : (j : Int) < (m : Int) := by omega
            have HCJ := Lib.hid hcj
            clear hsp hs hcj hb1 hb2
            go_wp2_with fail
            go_quiet (fail)
            go_wp2_with fail
            go_roundw
            case rel => exact ⟨j + 1, by omega, by first | rfl | simp, by go_num, by have := HCJ.out; ((repeat (first | exact Chg.refl _ _ | assumption | refine Chg.drewN ?_ _ | refine Chg.drew ?_ | refine Chg.alloc ?_ _ | refine Chg.setCell ?_ (by first | (simp; done) | (simp; omega) | (intro h; simp at h; omega)) _)))⟩
            case measure => simp [intOf]; omega
          · obtain rfl : j = m := by omega
            have hbj := HBb.out.same hcj
            have HBj := Lib.hid hbj
            have HBS' := Lib.hid (HBS.out.up.up)
            clear hcj hbj
            go_wp2_with fail
            refine (HTAIL.out D _ HBS'.out (HBj.out.same (by ((repeat (first | exact Chg.refl _ _ | assumption | refine Chg.drewN ?_ _ | refine Chg.drew ?_ | refine Chg.alloc ?_ _ | refine Chg.setCell ?_ (by first | (simp; done) | (simp; omega) | (intro h; simp at h; omega)) _)))))).mono ?_
            rintro e w5 ⟨rfl, hb5⟩
            have HB5 := Lib.hid hb5
            clear hb5
            go_wp2_with fail
            exact ⟨⟨k + 1, D, by omega, by go_num, HBS'.out, HB5.out⟩, by simp [intOf]; omega⟩
      · have hca := fun W (h : Both w W d r Z D D (fun _ => False)) => bw_read w d r Z D D (fun _ => False) (Lg k) W h HTAB.out hlg.1 hlg.2
        have hcb := fun W (h : Both w W d r Z D D (fun _ => False)) => bx_read w d r Z D D (fun _ => False) (Lg k) W h hlg.1 hlg.2
        obtain ⟨nm, hnm⟩ : ∃ nm, logB (Lg k) = nm := ⟨_, rfl⟩
        simp only [hnm] at hca hcb
        obtain ⟨lv, hlv⟩ : ∃ lv, (rdV D nm).1 = lv := ⟨_, rfl⟩
        obtain ⟨bv', hbv'⟩ : ∃ bv', (rdV D nm).2.1 = bv' := ⟨_, rfl⟩
        obtain ⟨ev, hev⟩ : ∃ ev, (rdV D nm).2.2 = ev := ⟨_, rfl⟩
        have hpl : ∀ W e W', RdPost W D nm e W' → ∃ v, e = .returned (.tuple #[v, .bool bv', .int .i64 ev]) ∧ Lst strC W' v lv ∧ Chg (fun _ => False) W W' := fun W e W' h => by
          have := rd_plain h
          rw [hlv, hbv', hev] at this
          exact this
        have HCA := Lib.hid hca
        have HCB := Lib.hid hcb
        have HPL := Lib.hid hpl
        clear hca hcb hpl hlv hbv' hev hnm HWH HLG HN HM HB HS HT HL hlg hbz hsz htz hnz hmz y2 y3 y4 y5 y6 y7 y8 HL1 HRI
        go_wp2_with fail
        refine (HCA.out _ HW.out).mono ?_
        intro e wa hpa
        obtain ⟨va, rfl, hLa, hca⟩ := HPL.out _ _ _ hpa
        have hba := HW.out.same hca
        have ka := (HZC.out _ _ _ hba).1
        obtain ⟨aa, ac, rfl, hle, hlm, _⟩ := str_form hLa
        have HBa := Lib.hid hba
        have HLa := Lib.hid hLa
        clear hpa hca hba hLa y1
        go_wp2_with fail
        refine (HCB.out _ HBa.out).mono ?_
        intro e wb hpb
        obtain ⟨vb, rfl, hLb, hcb⟩ := HPL.out _ _ _ hpb
        have hbb := HBa.out.same hcb
        have hLa2 := HLa.out.same hcb
        obtain ⟨ba', bc', rfl, hle2, _, hrb⟩ := str_form hLb
        obtain ⟨aa2, ac2, hav, _, _, hra⟩ := str_form hLa2
        injection hav with ha1 ha2 ha3
        subst ha1
        obtain ⟨m, hm⟩ : ∃ m, lv.length = m := ⟨_, rfl⟩
        rw [hm] at hle hlm hle2 ⊢
        have HBb := Lib.hid hbb.drop
        have HRA := Lib.hid hra
        have HRB := Lib.hid hrb
        have HMM := Lib.hid hm
        clear hpb hcb hbb hLb hLa2 hrb hra ha2 ha3 ka hm HLa HBa
        have q1 : (ev == ev) = true := by simp
        have q2 : (bv' == bv') = true := by simp
        go_wp2_with fail
        go_loopw [9, 104] (fun o i wx => ∃ j : Nat, j ≤ m ∧ o = .bool true ∧ i = .int .i64 j ∧ Chg (fun _ => False) wb wx) (fun _ i _ => m - (intOf i).toNat)
        case atStart => exact ⟨0, by omega, by first | rfl | simp, rfl, Chg.refl _ _⟩
        case round =>
          obtain ⟨j, hj, rfl, rfl, hcj⟩ := hrel
          by_cases hjm : j < m
          · have hsp : lv = lv.take j ++ lv[j]'(by rw [HMM.out]; exact hjm) :: lv.drop (j + 1) := by
              rw [← List.drop_eq_getElem_cons, List.take_append_drop]
            obtain ⟨s, hs⟩ : ∃ s, lv[j]'(by rw [HMM.out]; exact hjm) = s := ⟨_, rfl⟩
            rw [hs] at hsp
            obtain ⟨b1, e1, hb1, _, z1⟩ := HRA.out _ _ _ hsp
            obtain ⟨b2, e2, hb2, _, z2⟩ := HRB.out _ _ _ hsp
            rw [List.length_take, HMM.out, Nat.min_eq_left (by omega)] at z1 z2
            subst e1 e2
            have z1 := (hcj.cell (p := ⟨b1, _, none⟩) hb1 (by simp)).trans z1
            have z2 := (hcj.cell (p := ⟨b2, _, none⟩) hb2 (by simp)).trans z2
            have hqq : (s.toList == s.toList) = true := by simp
            have hj0 : (0 : Int) ≤ (j : Int) := by omega
            have hj1 : (j : Int) < (m : Int) := by omega
            have HCJ := Lib.hid hcj
            clear hsp hs hcj hb1 hb2
            go_wp2_with fail
            go_quiet (fail)
            go_wp2_with fail
            go_roundw
            case rel => exact ⟨j + 1, by omega, by first | rfl | simp, by go_num, by have := HCJ.out; ((repeat (first | exact Chg.refl _ _ | assumption | refine Chg.drewN ?_ _ | refine Chg.drew ?_ | refine Chg.alloc ?_ _ | refine Chg.setCell ?_ (by first | (simp; done) | (simp; omega) | (intro h; simp at h; omega)) _)))⟩
            case measure => simp [intOf]; omega
          · obtain rfl : j = m := by omega
            have hbj := HBb.out.same hcj
            have HBj := Lib.hid hbj
            have HBS' := Lib.hid (HBS.out.up.up)
            clear hcj hbj
            go_wp2_with fail
            refine (HTAIL.out D _ HBS'.out (HBj.out.same (by ((repeat (first | exact Chg.refl _ _ | assumption | refine Chg.drewN ?_ _ | refine Chg.drew ?_ | refine Chg.alloc ?_ _ | refine Chg.setCell ?_ (by first | (simp; done) | (simp; omega) | (intro h; simp at h; omega)) _)))))).mono ?_
            rintro e w5 ⟨rfl, hb5⟩
            have HB5 := Lib.hid hb5
            clear hb5
            go_wp2_with fail
            exact ⟨⟨k + 1, D, by omega, by go_num, HBS'.out, HB5.out⟩, by simp [intOf]; omega⟩
      · obtain ⟨E, D', hE⟩ : ∃ E D', orArg (logB (Lg k)) D (removeW D (logB (Lg k))) = (E, D') := ⟨_, _, rfl⟩
        have hca := fun W (h : Both w W d r Z D D (fun _ => False)) => bw_remove w d r Z D D (fun _ => False) (2 * k) (Lg k) W h HTAB.out hlg.1 hlg.2 HBS.out (by omega)
        have hcb := fun W (h : Both w W d r Z D' D (fun _ => False)) => bx_remove w d r Z D' D (fun _ => False) (2 * k) (Lg k) W h hlg.1 hlg.2 HBS.out (by omega)
        have hbs' := bsm_orArg (2 * k) D (logB (Lg k)) _ HBS.out (bsm_removeW (2 * k) D (logB (Lg k)) HBS.out)
        rw [hE] at hbs'
        simp only [hE] at hca hcb
        have HCA := Lib.hid hca
        have HCB := Lib.hid hcb
        have HBS' := Lib.hid hbs'
        clear hca hcb hbs' hE HWH HLG HN HM HB HS HT HL hlg hbz hsz htz hnz hmz y2 y3 y4 y5 y6 y7 y8 HL1 HRI
        go_wp2_with fail
        go_region_held3 (fun w' => w'.cell? ⟨g, 1, none⟩ = some (.int .i64 (Lg k)))
          (first | (go_keep; done))
          (first
            | (go_at_call 19; refine (HCA.out _ (HW.out.same (by ((repeat (first | exact Chg.refl _ _ | assumption | refine Chg.drewN ?_ _ | refine Chg.drew ?_ | refine Chg.alloc ?_ _ | refine Chg.setCell ?_ (by first | (simp; done) | (simp; omega) | (intro h; simp at h; omega)) _)))))).mono ?_; rintro e wa ⟨rfl, hba⟩; have HBa := Lib.hid hba; have ka := (HZC.out _ _ _ hba).1; clear hba)
            | (go_at_call 20; refine (HCB.out _ (HBa.out.same (by ((repeat (first | exact Chg.refl _ _ | assumption | refine Chg.drewN ?_ _ | refine Chg.drew ?_ | refine Chg.alloc ?_ _ | refine Chg.setCell ?_ (by first | (simp; done) | (simp; omega) | (intro h; simp at h; omega)) _)))))).mono ?_; rintro e wb ⟨rfl, hbb⟩; have HBb := Lib.hid hbb; have kb := (HZC.out _ _ _ hbb).1; clear hbb))
        go_wp2_with fail
        refine (HTAIL.out D' _ HBS'.out (HBb.out.drop.same (by ((repeat (first | exact Chg.refl _ _ | assumption | refine Chg.drewN ?_ _ | refine Chg.drew ?_ | refine Chg.alloc ?_ _ | refine Chg.setCell ?_ (by first | (simp; done) | (simp; omega) | (intro h; simp at h; omega)) _)))))).mono ?_
        rintro e w5 ⟨rfl, hb5⟩
        have HB5 := Lib.hid hb5
        clear hb5
        go_wp2_with fail
        exact ⟨⟨k + 1, D', by omega, by go_num, HBS'.out, HB5.out⟩, by simp [intOf]; omega⟩
      · obtain ⟨E, D', hE⟩ : ∃ E D', orArg (logB (Lg k)) D (removeW D (logB (Lg k))) = (E, D') := ⟨_, _, rfl⟩
        have hca := fun W (h : Both w W d r Z D D (fun _ => False)) => bw_remove w d r Z D D (fun _ => False) (2 * k) (Lg k) W h HTAB.out hlg.1 hlg.2 HBS.out (by omega)
        have hcb := fun W (h : Both w W d r Z D' D (fun _ => False)) => bx_remove w d r Z D' D (fun _ => False) (2 * k) (Lg k) W h hlg.1 hlg.2 HBS.out (by omega)
        have hbs' := bsm_orArg (2 * k) D (logB (Lg k)) _ HBS.out (bsm_removeW (2 * k) D (logB (Lg k)) HBS.out)
        rw [hE] at hbs'
        simp only [hE] at hca hcb
        have HCA := Lib.hid hca
        have HCB := Lib.hid hcb
        have HBS' := Lib.hid hbs'
        clear hca hcb hbs' hE HWH HLG HN HM HB HS HT HL hlg hbz hsz htz hnz hmz y2 y3 y4 y5 y6 y7 y8 HL1 HRI
        go_wp2_with fail
        go_region_held3 (fun w' => w'.cell? ⟨g, 1, none⟩ = some (.int .i64 (Lg k)))
          (first | (go_keep; done))
          (first
            | (go_at_call 19; refine (HCA.out _ (HW.out.same (by ((repeat (first | exact Chg.refl _ _ | assumption | refine Chg.drewN ?_ _ | refine Chg.drew ?_ | refine Chg.alloc ?_ _ | refine Chg.setCell ?_ (by first | (simp; done) | (simp; omega) | (intro h; simp at h; omega)) _)))))).mono ?_; rintro e wa ⟨rfl, hba⟩; have HBa := Lib.hid hba; have ka := (HZC.out _ _ _ hba).1; clear hba)
            | (go_at_call 20; refine (HCB.out _ (HBa.out.same (by ((repeat (first | exact Chg.refl _ _ | assumption | refine Chg.drewN ?_ _ | refine Chg.drew ?_ | refine Chg.alloc ?_ _ | refine Chg.setCell ?_ (by first | (simp; done) | (simp; omega) | (intro h; simp at h; omega)) _)))))).mono ?_; rintro e wb ⟨rfl, hbb⟩; have HBb := Lib.hid hbb; have kb := (HZC.out _ _ _ hbb).1; clear hbb))
        go_wp2_with fail
        refine (HTAIL.out D' _ HBS'.out (HBb.out.drop.same (by ((repeat (first | exact Chg.refl _ _ | assumption | refine Chg.drewN ?_ _ | refine Chg.drew ?_ | refine Chg.alloc ?_ _ | refine Chg.setCell ?_ (by first | (simp; done) | (simp; omega) | (intro h; simp at h; omega)) _)))))).mono ?_
        rintro e w5 ⟨rfl, hb5⟩
        have HB5 := Lib.hid hb5
        clear hb5
        go_wp2_with fail
        exact ⟨⟨k + 1, D', by omega, by go_num, HBS'.out, HB5.out⟩, by simp [intOf]; omega⟩
      · have hact := fun W (h : Both w W d r Z D D (fun _ => False)) => ld_act w d r D (2 * k) (by omega) (Do k) (S k) (T k) (N k) (M k) _ (L k) hsz htz hnz hmz HL1.out HBS.out W h.drop (HRI.out W h.frame)
        have HACT := Lib.hid hact
        clear hact HWH HLG HN HM HB HS HT HL hlg hbz hsz htz hnz hmz HRI y1 y2
        go_wp2_with fail
        refine (HACT.out _ HW.out).mono ?_
        rintro e wa ⟨rfl, D', hbs', hba⟩
        have HBS' := Lib.hid hbs'.up
        have HBa := Lib.hid hba
        clear hbs' hba
        go_wp2_with fail
        refine (HTAIL.out D' _ HBS'.out HBa.out).mono ?_
        rintro e w5 ⟨rfl, hb5⟩
        have HB5 := Lib.hid hb5
        clear hb5
        go_wp2_with fail
        exact ⟨⟨k + 1, D', by omega, by go_num, HBS'.out, HB5.out⟩, by simp [intOf]; omega⟩
      · have hact := fun W (h : Both w W d r Z D D (fun _ => False)) => ld_act w d r D (2 * k) (by omega) (Do k) (S k) (T k) (N k) (M k) _ (L k) hsz htz hnz hmz HL1.out HBS.out W h.drop (HRI.out W h.frame)
        have HACT := Lib.hid hact
        clear hact HWH HLG HN HM HB HS HT HL hlg hbz hsz htz hnz hmz HRI y1 y2
        go_wp2_with fail
        refine (HACT.out _ HW.out).mono ?_
        rintro e wa ⟨rfl, D', hbs', hba⟩
        have HBS' := Lib.hid hbs'.up
        have HBa := Lib.hid hba
        clear hbs' hba
        go_wp2_with fail
        refine (HTAIL.out D' _ HBS'.out HBa.out).mono ?_
        rintro e w5 ⟨rfl, hb5⟩
        have HB5 := Lib.hid hb5
        clear hb5
        go_wp2_with fail
        exact ⟨⟨k + 1, D', by omega, by go_num, HBS'.out, HB5.out⟩, by simp [intOf]; omega⟩
    · have HC := Lib.hid hcc
      clear hcc hB hbs HR
      go_wp2_with fail
      go_ret
      exact ⟨rfl, HC.out⟩
end Go.Proofs.YtjfbcjmnjlehaaaGreatDoor
