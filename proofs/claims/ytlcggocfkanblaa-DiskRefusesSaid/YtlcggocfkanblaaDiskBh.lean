/-
  The walk of DiskRefuses (printed by gen_dref.py).
-/
import Derived.Test.YtlcggocfkanblaaDiskBf
namespace Go.Proofs.Ytlcggocfkanblaa
open Go.RowKit
set_option linter.unusedVariables false
set_option linter.unusedSimpArgs false

def SameF (D D' : DiskV) : Prop := D'.names = D.names ∧ D'.files = D.files ∧ D'.off = D.off
theorem SameF.refl (D : DiskV) : SameF D D := ⟨rfl, rfl, rfl⟩
theorem SameF.used {D D' : DiskV} (h : SameF D D') : usedD D' = usedD D := by unfold usedD; rw [h.1, h.2.1]
theorem SameF.read {D D' : DiskV} (h : SameF D D') (n : ByteArray) : readD D' n = readD D n := by unfold readD dataOf; rw [h.1, h.2.1, h.2.2]
theorem SameF.list {D D' : DiskV} (h : SameF D D') : listD D' = listD D := by unfold listD; rw [h.1]
theorem change_refused {D : DiskV} {c : Bool} {act : DiskV → DiskV} (h0 : (changeD D c act).1 ≠ 0) (h13 : (changeD D c act).1 ≠ 13) : SameF D (changeD D c act).2 := by
  unfold changeD at *
  split
  · rename_i h; simp [h] at h13
  · rename_i h
    split
    · exact ⟨rfl, rfl, rfl⟩
    · rename_i h2; simp [h, h2] at h0
theorem create_refused {D : DiskV} (a : ByteArray) (h0 : (createD D a).1 ≠ 0) (h13 : (createD D a).1 ≠ 13) : SameF D (createD D a).2 := by
  unfold createD at *
  split
  · exact SameF.refl D
  · rename_i e1
    rw [if_neg e1] at h0 h13
    split
    · exact SameF.refl D
    · rename_i e2
      rw [if_neg e2] at h0 h13
      split
      · exact SameF.refl D
      · rename_i e3
        rw [e3] at h0 h13
        simp only at h0 h13
        split
        · exact SameF.refl D
        · rename_i e4
          rw [if_neg e4] at h0 h13
          exact change_refused h0 h13
theorem append_refused {D : DiskV} (a b : ByteArray) (h0 : (appendD D a b).1 ≠ 0) (h13 : (appendD D a b).1 ≠ 13) : SameF D (appendD D a b).2 := by
  unfold appendD at *
  split
  · exact SameF.refl D
  · rename_i e1
    rw [if_neg e1] at h0 h13
    split
    · rename_i i e3
      rw [e3] at h0 h13
      simp only at h0 h13
      split
      · exact SameF.refl D
      · rename_i e4
        rw [if_neg e4] at h0 h13
        exact change_refused h0 h13
    · exact SameF.refl D
theorem sync_refused {D : DiskV} (a : ByteArray) (h0 : (syncD D a).1 ≠ 0) (h13 : (syncD D a).1 ≠ 13) : SameF D (syncD D a).2 := by
  unfold syncD at *
  split
  · exact SameF.refl D
  · rename_i e1
    rw [if_neg e1] at h0 h13
    split
    · rename_i i e3
      rw [e3] at h0 h13
      simp only at h0 h13
      exact change_refused h0 h13
    · exact SameF.refl D
theorem rename_refused {D : DiskV} (a b : ByteArray) (h0 : (renameD D a b).1 ≠ 0) (h13 : (renameD D a b).1 ≠ 13) : SameF D (renameD D a b).2 := by
  unfold renameD at *
  split
  · exact SameF.refl D
  · rename_i e1
    rw [if_neg e1] at h0 h13
    split
    · rename_i i e3
      rw [e3] at h0 h13
      simp only at h0 h13
      split
      · rename_i e4
        rw [if_pos e4] at h0 h13
        exact change_refused h0 h13
      · exact SameF.refl D
    · exact SameF.refl D
theorem remove_refused {D : DiskV} (a : ByteArray) (h0 : (removeD D a).1 ≠ 0) (h13 : (removeD D a).1 ≠ 13) : SameF D (removeD D a).2 := by
  unfold removeD at *
  split
  · exact SameF.refl D
  · rename_i e1
    rw [if_neg e1] at h0 h13
    split
    · rename_i i e3
      rw [e3] at h0 h13
      simp only at h0 h13
      exact change_refused h0 h13
    · exact SameF.refl D
theorem Both.state {w0 w : World} {d r : Nat} {Y : Nat → Obj → Prop} {D1 D2 : DiskV} {X : Nat → Prop} (h : Both w0 w d r Y D1 D2 X) : DState w0 w d D1 := by
  obtain ⟨ids, Md, Mr, hd, hr, h1, h2, h3, h4, h5⟩ := h
  exact ⟨ids, Md, hd, fun k hk => h2 k (.inl hk), h3⟩
theorem BSm.dsmall {N : Nat} {D : DiskV} (h : BSm N D) (hN : N ≤ 1000) : DSmall D := ⟨by have := h.l; omega, by have := h.f; omega, by have := h.n; omega⟩
theorem st_used (w0 : World) (d : Nat) (D : DiskV) (w : World) (h : DState w0 w d D) (hN : D.names.length ≤ 1000000) : Calls Try.prog 23 #[.pointer (some ⟨d, 0, none⟩)] w fun e w' => e = .returned (.int .i64 (usedD D)) ∧ Chg (fun _ => False) w w' := by
  obtain ⟨ids, M, ha, _⟩ := h
  exact disk_used d ids D M w ha hN
theorem st_read2 (w0 : World) (d : Nat) (D : DiskV) (n : ByteArray) (hn : n.size ≤ maxLen) (w : World) (h : DState w0 w d D) : Calls Try.prog 17 #[.pointer (some ⟨d, 0, none⟩), .string n] w fun e w' => e = .returned (.tuple #[.string (readD D n).1, .int .i64 (readD D n).2]) ∧ Chg (fun _ => False) w w' := by
  obtain ⟨ids, M, ha, _⟩ := h
  exact disk_read d ids D M n hn w ha
theorem st_remove (w0 : World) (d : Nat) (D : DiskV) (n : ByteArray) (hn : n.size ≤ maxLen) (hD : DSmall D) (w : World) (h : DState w0 w d D) : Calls Try.prog 22 #[.pointer (some ⟨d, 0, none⟩), .string n] w fun e w' => e = .returned (.int .i64 (removeD D n).1) ∧ DState w0 w' d (removeD D n).2 := by
  obtain ⟨ids, M, ha, hM, hc⟩ := h
  exact (disk_remove d ids D M n hn hD.q w ha).mono fun e w' ⟨he, hp⟩ => ⟨he, DState.of_post hM hc hp⟩
/-- List, of a disk whose names are those of D0. -/
theorem st_list (w0 : World) (d : Nat) (D D0 : DiskV) (hs : SameF D0 D) (ha : Asc D0.names) (hN : D0.names.length ≤ 1000000) (w : World) (h : DState w0 w d D) : Calls Try.prog 18 #[.pointer (some ⟨d, 0, none⟩)] w fun e w' => ∃ v, e = .returned v ∧ w'.ownsRow w.heap.size 9 1 v D0.names.length (D0.names.map fun p => Value.string p.1) ∧ Chg (fun _ => False) w w' := by
  obtain ⟨ids, M, hd, _⟩ := h
  have := disk_list d ids D M (by rw [hs.1]; exact hN) w hd
  rw [hs.list, listD_cells ha] at this
  have hll : (listD D0).length = D0.names.length := by rw [listD_asc ha]; simp
  rw [hll] at this
  exact this
theorem array6 {cs : Array Value} (h : cs.size = 6) : ∃ a b c d e f, cs = #[a, b, c, d, e, f] := by
  obtain ⟨l⟩ := cs
  match l, h with
  | [a, b, c, d, e, f], _ => exact ⟨a, b, c, d, e, f, rfl⟩
theorem info_string : (Try.prog.info? 9).map (fun i => (i.zero, i.size, i.bytes)) = some (some (.string ⟨#[]⟩), 1, 16) := by kernel_rfl
theorem row_block {w : World} {base : Nat} {e : TypeId} {size : Nat} {v : Value} {n : Nat} {xs : List Value} (h : w.ownsRow base e size v n xs) {k : Nat} (hk : v.ownBlock = some k) : base ≤ k := by
  rcases h.2 with ⟨rfl, _⟩ | ⟨g, cap, cur, rfl, hb, _⟩
  · simp [Value.ownBlock] at hk
  · simp [Value.ownBlock] at hk; omega
theorem row_read {w : World} {l : List (ByteArray × Nat)} {g : ByteArray × Nat → ByteArray} {q : Nat} {a : Option Addr} {c : Nat} (hq : q = l.length) (h : Own w 9 1 (.slice a q c) q (l.map fun p => Value.string (g p))) (i : Nat) (hi : i < l.length) : ∃ b, a = some ⟨b, 0, none⟩ ∧ b < w.heap.size ∧ (Value.slice a q c).ownBlock = some b ∧ w.cell? ⟨b, i, none⟩ = some (.string (g l[i])) := by
  obtain ⟨a', cap, he, _, _, hr⟩ := h.reads
  injection he with he1 he2 he3
  subst he1
  obtain ⟨b, hb, hbl, ho, hc⟩ := hr (by omega)
  exact ⟨b, hb, hbl, ho, hc i _ (by rw [List.getElem?_map, List.getElem?_eq_getElem hi]; rfl)⟩
def datas (D : DiskV) (l : Names) : List Value := l.map fun p => Value.string (readD D p.1).1
theorem datas_take (D : DiskV) (l : Names) (q : Nat) (hq : q < l.length) : datas D (l.take q) ++ [.string (readD D l[q].1).1] = datas D (l.take (q + 1)) := by
  unfold datas
  rw [List.take_succ_eq_append_getElem hq, List.map_append]
  rfl
/-- What the law does behind the call. -/
def After (D D' : DiskV) (e : Int) : Prop := e ≠ 0 → e ≠ 13 → SameF D D'

set_option maxRecDepth 100000 in
set_option maxHeartbeats 8000000 in
theorem disk_refuses (room : Int) (A : Option Addr) (n c : Nat) (Do N M : Nat → Int) (S T : Nat → ByteArray) (bv : Nat → Value) (L : Nat → List Int) (Do0 n0 m0 : Int) (s0 t0 : ByteArray) (bv0 : Value) (l0 : List Int) (hs0 : s0.size ≤ 140737488355328) (ht0 : t0.size ≤ 140737488355328) (hDo0 : In64 Do0) (hroom : room ≤ 9223372036854775807) (hN : ∀ i, In64 (N i)) (hM : ∀ i, In64 (M i)) (hS : ∀ i, (S i).size ≤ 140737488355328) (hT : ∀ i, (T i).size ≤ 140737488355328) (w : World) (hn : n ≤ 9223372036854775807) (hnc : n ≤ c)
    (hL : ∀ i, i < n → RInts w (bv i) (L i) ∧ (L i).length ≤ 17592186044416) (hs : Rec w w.heap.size 6 A n (dRow Do N M S T bv)) (hb0 : RInts w bv0 l0) :
    Calls Try.prog 6 #[.int .i64 room, .slice A n c, .agg #[.int .i64 Do0, .string s0, .string t0, .int .i64 n0, .int .i64 m0, bv0]] w fun e w' => e = .returned (.bool true) ∧ Chg (fun _ => False) w w' := by
  obtain ⟨ba, bc, rfl, _⟩ := hb0
  obtain ⟨bl, hbl⟩ : ∃ bl, bl = l0.length := ⟨_, rfl⟩
  rw [← hbl]
  clear hbl
  obtain ⟨W1, hW1⟩ : ∃ W1, W1 = w.alloc (.cells #[.int .i64 Do0, .string s0, .string t0, .int .i64 n0, .int .i64 m0, .slice ba bl bc] 45) := ⟨_, rfl⟩
  have hc1 : Chg (fun _ => False) w W1 := by rw [hW1]; ((repeat (first | exact Chg.refl _ _ | assumption | refine Chg.drewN ?_ _ | refine Chg.drew ?_ | refine Chg.alloc ?_ _ | refine Chg.setCell ?_ (by simp) _)))
  have hb1 : Blk W1 w.heap.size 45 #[.int .i64 Do0, .string s0, .string t0, .int .i64 n0, .int .i64 m0, .slice ba bl bc] := by rw [hW1]; exact Blk.new w _ _
  have HR := Lib.hid hs
  have HN := Lib.hid hN
  have HM := Lib.hid hM
  have HS := Lib.hid hS
  have HT := Lib.hid hT
  have HL := Lib.hid hL
  have HW1 := Lib.hid hW1
  have HC1 := Lib.hid hc1
  have HB1 := Lib.hid hb1
  have hsm : s0.size ≤ maxLen := Nat.le_trans hs0 (by decide)
  have htm : t0.size ≤ maxLen := Nat.le_trans ht0 (by decide)
  clear hs hN hM hS hT hL hW1 hc1 hb1
  go_enter Try.func6, Try.ntmps6
  go_wp2_with fail
  rw [← HW1.out]
  refine (st_new room hroom W1).mono ?_
  rintro e w1 ⟨rfl, h1⟩
  have H1 := Lib.hid h1
  clear h1
  go_wp2_with fail
  refine (rd_new room hroom w1).mono ?_
  rintro e w2 ⟨rfl, hr2, hc2, _⟩
  have hb2 := both_new H1.out hr2 hc2
  have HB2 := Lib.hid hb2
  clear hr2 hc2 hb2 H1
  generalize w1.heap.size = r at *
  generalize W1.heap.size + 2 = d at *
  go_wp2_with fail
  obtain ⟨q, hq1, hq2, hq3⟩ : ∃ q : Nat, q ≤ n ∧ q ≤ 60 ∧ (q = n ∨ q = 60) := ⟨min n 60, by omega, by omega, by omega⟩
  go_loopw [34] (fun i wr => ∃ (k : Nat) (D : DiskV), k ≤ q ∧ i = .int .i64 k ∧ BSm k D ∧ Both W1 wr d r (fun _ _ => False) D D (fun _ => False)) (fun i _ => q - (intOf i).toNat)
  case atStart => exact ⟨0, _, by omega, rfl, bsm_start room, HB2.out⟩
  case round =>
    obtain ⟨k, D, hk, rfl, hbs, hB⟩ := hrel
    have hcc := HC1.out.then hB.frame
    by_cases hlt : k < q
    · obtain ⟨b, off, rfl, hbB, hcell⟩ := HR.out (by omega)
      have x0 := (hcc.cell (p := ⟨b, _, none⟩) hbB (by simp)).trans (hcell k (by omega) 0 (by omega))
      have x1 := (hcc.cell (p := ⟨b, _, none⟩) hbB (by simp)).trans (hcell k (by omega) 1 (by omega))
      have x2 := (hcc.cell (p := ⟨b, _, none⟩) hbB (by simp)).trans (hcell k (by omega) 2 (by omega))
      have x3 := (hcc.cell (p := ⟨b, _, none⟩) hbB (by simp)).trans (hcell k (by omega) 3 (by omega))
      have x4 := (hcc.cell (p := ⟨b, _, none⟩) hbB (by simp)).trans (hcell k (by omega) 4 (by omega))
      have x5 := (hcc.cell (p := ⟨b, _, none⟩) hbB (by simp)).trans (hcell k (by omega) 5 (by omega))
      simp only [Nat.add_zero, dRow] at x0 x1 x2 x3 x4 x5
      have hk0 : (0 : Int) ≤ (k : Int) := by omega
      have hk1 : (k : Int) < (n : Int) := by omega
      have hk2 : (k : Int) < 60 := by omega
      obtain ⟨hr1, hl1⟩ := HL.out k (by omega)
      obtain ⟨sa, sc, hbv, _⟩ := hr1
      have hri := fun W (hW : Chg (fun _ => False) w W) => (HL.out k (by omega)).1.keep hW
      rw [hbv] at x5 hri
      have hact := fun W (hW : Chg (fun _ => False) wr W) => ld_act W1 d r D k (by omega) (Do k) (S k) (T k) (N k) (M k) _ (L k) (HS.out k) (HT.out k) (HN.out k) (HM.out k) hl1 hbs W (hB.same hW) (hri W (hcc.then hW))
      have HACT := Lib.hid hact
      have HQ := Lib.hid hq3
      clear hcell HR hB hcc hbs hq3 hri hact hbv
      go_wp2_with fail
      refine (HACT.out _ (by ((repeat (first | exact Chg.refl _ _ | assumption | refine Chg.drewN ?_ _ | refine Chg.drew ?_ | refine Chg.alloc ?_ _ | refine Chg.setCell ?_ (by simp) _))))).mono ?_
      rintro e w5 ⟨rfl, D', hbs', hB'⟩
      have HB5 := Lib.hid hB'
      have HBS5 := Lib.hid hbs'
      clear hB' hbs' x0 x1 x2 x3 x4 x5
      go_wp2_with fail
      exact ⟨⟨k + 1, D', by omega, by go_num, HBS5.out, HB5.out⟩, by simp [intOf]; omega⟩
    · have hge3 : ¬ ((k : Int) < min (n : Int) 60) := by omega
      have hge : ¬ ((k : Int) < (q : Int)) := by omega
      have hk60 : k ≤ 60 := by omega
      have hst := hB.state
      have hsm0 := hbs.dsmall (by omega)
      have hnl := hbs.n
      obtain ⟨nn, hnn⟩ : ∃ nn, nn = D.names.length := ⟨_, rfl⟩
      have hnn2 : (nn : Int) ≤ 200 := by omega
      have hlist := fun D' hsf W h => st_list W1 d D' D hsf hbs.an (by omega) W h
      rw [← hnn] at hlist
      have hsz : ∀ i, (hi : i < D.names.length) → D.names[i].1.size ≤ maxLen := fun i hi => Nat.le_trans (hst.ok.names.sz _ (List.getElem_mem hi)) (by decide)
      have HST := Lib.hid hst
      have HBO := Lib.hid hB
      have HBS := Lib.hid hbs
      obtain ⟨wx, hwx⟩ : ∃ wx, wx = wr := ⟨_, rfl⟩
      rw [← hwx] at HST HBO ⊢
      have hwx2 := HBO.out.frame.size
      have HSM := Lib.hid hsm0
      have HLI := Lib.hid hlist
      have HNN := Lib.hid hnn
      have HSZ := Lib.hid hsz
      have HNL := Lib.hid hnl
      clear hcc hB hbs HR hq3 hst hsm0 hlist hnn hsz hnl HL hwx
      go_wp2_with fail
      refine (HLI.out D (SameF.refl D) _ HST.out).mono ?_
      rintro e w3 ⟨v, rfl, hrow, hc3⟩
      have hrow2 := hrow
      have hlge : ∀ k, v.ownBlock = some k → wx.heap.size ≤ k ∧ k < w3.heap.size := fun k hk => ⟨row_block hrow hk, (Own.of_row hrow).lt hk⟩
      have HLGE := Lib.hid hlge
      rw [HNN.out] at hrow2
      obtain ⟨la, lc, rfl, _, _, hlread⟩ := row_form hrow2
      rw [← HNN.out]
      have HLR := Lib.hid hlread
      have HS3 := Lib.hid (HST.out.same hc3)
      have HX3 := Lib.hid hc3
      clear hrow hrow2 hlread hc3 hlge
      go_wp2_with fail
      refine (st_used W1 d D _ HS3.out (by have := HNL.out; omega)).mono ?_
      rintro e w4 ⟨rfl, hc4⟩
      have HS4 := Lib.hid (HS3.out.same hc4)
      have HC4 := Lib.hid hc4
      obtain ⟨us, hus⟩ : ∃ us, us = usedD D := ⟨_, rfl⟩
      rw [← hus]
      have HUS := Lib.hid hus
      clear hc4 hus
      go_wp2_with fail
      go_loopw [13, 49] (fun dv i wr => ∃ q : Nat, q ≤ nn ∧ i = .int .i64 q ∧ Own wr 9 1 dv q (datas D (D.names.take q)) ∧ (∀ k, dv.ownBlock = some k → w4.heap.size ≤ k) ∧ Chg (fun _ => False) w4 wr) (fun _ i _ => nn - (intOf i).toNat)
      case atStart => exact ⟨0, by omega, rfl, Own.nil _ _ _, by simp [Value.ownBlock], Chg.refl _ _⟩
      case round =>
        obtain ⟨q, hq, rfl, hown, hge5, hcr⟩ := hrel
        obtain ⟨da, dc, rfl, hdc, hdn, hdread⟩ := hown.reads
        by_cases hlt5 : q < nn
        · have hlt5' : (q : Int) < (nn : Int) := by omega
          have hge5' : (0 : Int) ≤ (q : Int) := by omega
          have hqn : q < D.names.length := by rw [← HNN.out]; exact hlt5
          obtain ⟨i1, hi1, hz0, hz1, hz2⟩ := info_parts info_string
          obtain ⟨lb, rfl, hlb, y0⟩ := HLR.out q hqn
          have y0' := ((HC4.out.then hcr).cell (p := ⟨lb, q, none⟩) hlb (by simp)).trans y0
          have hread := st_read2 W1 d D D.names[q].1 (HSZ.out q hqn) _ (HS4.out.same hcr)
          have hdt := datas_take D D.names q hqn
          generalize (readD D D.names[q].1).1 = rd at *
          generalize (readD D D.names[q].1).2 = re at *
          generalize D.names[q].1 = nm at *
          have HRD := Lib.hid hread
          have HO := Lib.hid hown
          have HG := Lib.hid hge5
          have HCR := Lib.hid hcr
          have HDT := Lib.hid hdt
          clear hread hown hge5 hcr hdt y0 hdread
          go_wp2_with fail
          refine HRD.out.mono ?_
          rintro e w5 ⟨rfl, hc5⟩
          have HO5 := Lib.hid (HO.out.same hc5)
          have HC5 := Lib.hid (HCR.out.then hc5)
          clear hc5 HO y0'
          go_wp2_with (at_builtin; refine wpList_own_append _ (by rfl) _ _ _ _ (by rfl) 9 i1 (.string ⟨#[]⟩) 1 16 Try.underlying36 hi1 hz0 hz1 hz2 rfl (.slice da q dc) q (datas D (D.names.take q)) (by rfl) (HO5.out.same (by ((repeat (first | exact Chg.refl _ _ | assumption | refine Chg.drewN ?_ _ | refine Chg.drew ?_ | refine Chg.alloc ?_ _ | refine Chg.setCell ?_ (by simp) _))))) _ 1 [.string rd] (by rfl) (Src.ofSlice _ Try.underlying36 ⟨w5.heap.size, 0, none⟩ 1 1 _ rfl (World.news_of_block (cs := #[.string rd]) (t := 9) (fr := (0, 0)) (heap_alloc_new _ _)) (by simp [Value.oneCell'])) (by unfold maxLen; omega) (by omega) ?_)
          intro v6 w6 hown6 hgr6 hvb6
          rw [HDT.out] at hown6
          have hc6 : Chg (fun _ => False) w4 w6 := ((HC5.out.alloc _).grown hgr6 (fun k hk hl => by have := HG.out k hk; omega))
          have hk6 : ∀ k, v6.ownBlock = some k → w4.heap.size ≤ k := fun k hk => by
            have := HC5.out.size
            rcases hvb6 with e | e
            · exact HG.out k (by rw [← e]; exact hk)
            · rw [e] at hk; injection hk with hk; first | omega | (have e5 : w5.heap.size ≤ k := by rw [← hk]; simp; omega)
          have HO6 := Lib.hid hown6
          have HC6 := Lib.hid hc6
          have HK6 := Lib.hid hk6
          clear hown6 hgr6 hvb6 hc6 hk6 HDT
          go_wp2_with fail
          exact ⟨⟨q + 1, by omega, by go_num, HO6.out, HK6.out, HC6.out⟩, by simp [intOf]; omega⟩
        · obtain rfl : q = nn := by omega
          have hge5' : ¬ ((q : Int) < (q : Int)) := by omega
          have hS5 := HS4.out.same hcr
          have hbx := HB1.out.chg hS5.frame (by simp)
          have y0 := hbx.cell 0
          have y1 := hbx.cell 1
          have y2 := hbx.cell 2
          have hbl := hbx.lt
          simp at y0 y1 y2
          have hown' : Own wr 9 1 (.slice da q dc) q (datas D D.names) := by
            rw [HNN.out, List.take_length] at hown
            rw [HNN.out]
            exact hown
          have HO5 := Lib.hid hown'
          have HS5 := Lib.hid hS5
          have HC35 := Lib.hid (HC4.out.then hcr)
          have hdge : ∀ k, (Value.slice da q dc).ownBlock = some k → w4.heap.size ≤ k := hge5
          have HDG := Lib.hid hdge
          obtain ⟨w5, hw5⟩ : ∃ w5, w5 = wr := ⟨_, rfl⟩
          rw [← hw5] at HO5 HS5 HC35 y0 y1 y2 hbl
          have hkeep : Both W1 w5 d r (fun k o => ((Value.slice la q lc).ownBlock = some k ∨ (Value.slice da q dc).ownBlock = some k) ∧ w5.heap[k]? = some o) D D (fun _ => False) := HBO.out.keep (HX3.out.then HC35.out) (fun k hk => hk.elim) (fun k o hk => ⟨by
            have h1 := HX3.out.size
            have h2 := HC4.out.size
            rcases hk.1 with e | e
            · exact (HLGE.out k (by rw [← HNN.out]; exact e)).1
            · have := HDG.out k e; omega, hk.2, fun e => e.elim⟩)
          have HKE := Lib.hid hkeep
          clear hkeep
          clear hS5 hbx hown' hown hge5 hcr hdread hdge
          rw [← hw5]
          clear hw5
          have hm5 : ∃ c5 : Nat, c5 < 5 ∧ (max 0 Do0).tmod 5 = c5 ∧ (max 0 Do0) % 5 = c5 := by
            refine ⟨((max 0 Do0) % 5).toNat, by omega, ?_, by omega⟩
            rw [Int.tmod_eq_emod_of_nonneg (by omega)]
            omega
          obtain ⟨c5, hc5l, hc5t, hc5e⟩ := hm5
          rcases (show c5 = 0 ∨ c5 = 1 ∨ c5 = 2 ∨ c5 = 3 ∨ c5 = 4 by omega) with rfl | rfl | rfl | rfl | rfl
          · go_wp2_with fail
            refine (bd_create W1 d r _ D D _ k s0 _ HKE.out HBS.out (by omega) hsm).mono ?_
            rintro e w6 ⟨rfl, h6⟩
            obtain ⟨code, hcode⟩ : ∃ code, code = (createD D s0).1 := ⟨_, rfl⟩
            obtain ⟨D', hD'⟩ : ∃ D', D' = (createD D s0).2 := ⟨_, rfl⟩
            have hsf : code ≠ 0 → code ≠ 13 → SameF D D' := by rw [hcode, hD']; exact create_refused s0
            rw [← hD'] at h6
            rw [← hcode]
            have HB6 := Lib.hid h6
            have HS6 := Lib.hid h6.state
            have HSF := Lib.hid hsf
            clear hcode hD' h6 hsf y0 y1 y2
            by_cases c0 : code = 0
            · subst c0
              go_wp2_with fail
              refine (disk_wakes _).mono ?_
              rintro e w7 ⟨rfl, hc7⟩
              have HC7 := Lib.hid hc7
              clear hc7
              go_wp2_with fail
              refine (disk_wakes _).mono ?_
              rintro e w8 ⟨rfl, hc8⟩
              have HC8 := Lib.hid (HC1.out.then (((HS6.out.frame).then HC7.out).then hc8))
              clear hc8
              go_wp2_with fail
              go_ret
              exact ⟨rfl, HC8.out⟩
            · by_cases c13 : code = 13
              · subst c13
                go_wp2_with fail
                refine (disk_wakes _).mono ?_
                rintro e w7 ⟨rfl, hc7⟩
                have HC7 := Lib.hid hc7
                clear hc7
                go_wp2_with fail
                refine (disk_wakes _).mono ?_
                rintro e w8 ⟨rfl, hc8⟩
                have HC8 := Lib.hid (HC1.out.then (((HS6.out.frame).then HC7.out).then hc8))
                clear hc8
                go_wp2_with fail
                go_ret
                exact ⟨rfl, HC8.out⟩
              · have hsf2 := HSF.out c0 c13
                have HF2 := Lib.hid hsf2
                clear hsf2
                have hd0 : decide (code = 0) = false := by simp [c0]
                have hd13 : decide (code = 13) = false := by simp [c13]
                have hq0 : (code == 0) = false := by simp [c0]
                have hq13 : (code == 13) = false := by simp [c13]
                go_wp2_with fail
                refine (disk_wakes _).mono ?_
                rintro e w7 ⟨rfl, hc7⟩
                have HC7 := Lib.hid hc7
                clear hc7
                go_wp2_with fail
                refine (HLI.out D' HF2.out _ (HS6.out.same HC7.out)).mono ?_
                rintro e w8 ⟨v8, rfl, hrow8, hc8⟩
                rw [HNN.out] at hrow8
                obtain ⟨ma, mc, rfl, _, _, hmread⟩ := row_form hrow8
                rw [← HNN.out]
                have HC8 := Lib.hid (HC7.out.then hc8)
                have HMR := Lib.hid hmread
                clear hrow8 hmread hc8
                go_wp2_with fail
                refine (st_used W1 d D' _ (HS6.out.same HC8.out) (by rw [HF2.out.1]; have := HNL.out; omega)).mono ?_
                rintro e w9 ⟨rfl, hc9⟩
                rw [HF2.out.used, ← HUS.out]
                have hk59 : ∀ k i v, ((Value.slice la q lc).ownBlock = some k ∨ (Value.slice da q dc).ownBlock = some k) → k < w5.heap.size → w5.cell? ⟨k, i, none⟩ = some v → k < w9.heap.size ∧ w9.cell? ⟨k, i, none⟩ = some v := fun k i v hk hl hv => by
                  have ho : w5.heap[k]? = some w5.heap[k] := Array.getElem?_eq_getElem hl
                  have h6 := HB6.out.holds (k := k) (o := w5.heap[k]) ⟨hk, ho⟩
                  have hl6 := heap_lt h6
                  have e6 : w6.cell? ⟨k, i, none⟩ = w5.cell? ⟨k, i, none⟩ := World.cell?_of_block (w := w5) (h6.trans ho.symm)
                  have h69 := HC8.out.then hc9
                  exact ⟨Nat.lt_of_lt_of_le hl6 h69.size, (h69.cell (p := ⟨k, i, none⟩) hl6 (by simp)).trans (e6.trans hv)⟩
                have hA : ∀ p, (hp : p < D.names.length) → ∃ b, la = some ⟨b, 0, none⟩ ∧ b < w9.heap.size ∧ w9.cell? ⟨b, p, none⟩ = some (.string D.names[p].1) := fun p hp => by
                  obtain ⟨b, hb, hbl, hc⟩ := HLR.out p hp
                  have h5 := (HC35.out.cell (p := ⟨b, p, none⟩) hbl (by simp)).trans hc
                  obtain ⟨h1, h2⟩ := hk59 b p _ (.inl (by rw [hb]; rfl)) (Nat.lt_of_lt_of_le hbl HC35.out.size) h5
                  exact ⟨b, hb, h1, h2⟩
                have hDt : ∀ p, (hp : p < D.names.length) → ∃ b, da = some ⟨b, 0, none⟩ ∧ b < w9.heap.size ∧ w9.cell? ⟨b, p, none⟩ = some (.string (readD D D.names[p].1).1) := fun p hp => by
                  obtain ⟨b, hb, hbl, hbo, hc⟩ := row_read (g := fun x => (readD D x.1).1) HNN.out HO5.out p hp
                  obtain ⟨h1, h2⟩ := hk59 b p _ (.inr hbo) hbl hc
                  exact ⟨b, hb, h1, h2⟩
                have HA := Lib.hid hA
                have HDt := Lib.hid hDt
                have HC9 := Lib.hid hc9
                clear hk59 hA hDt hc9 HB6 HO5 HLR HKE
                have hnq : (q : Int) ≤ 200 := by omega
                go_wp2_with fail
                go_loopw [128] (fun i wr => ∃ p : Nat, p ≤ q ∧ i = .int .i64 p ∧ Chg (fun _ => False) w9 wr) (fun i _ => q - (intOf i).toNat)
                case atStart => exact ⟨0, by omega, rfl, Chg.refl _ _⟩
                case round =>
                  obtain ⟨p, hp, rfl, hcr⟩ := hrel
                  by_cases hlt9 : p < q
                  · have hlt9' : (p : Int) < (q : Int) := by omega
                    have hge9 : (0 : Int) ≤ (p : Int) := by omega
                    have hpn : p < D.names.length := by rw [← HNN.out]; exact hlt9
                    obtain ⟨lb, rfl, hlb, u0⟩ := HA.out p hpn
                    obtain ⟨db, rfl, hdb, u1⟩ := HDt.out p hpn
                    obtain ⟨mb, rfl, hmb, u2⟩ := HMR.out p hpn
                    have u0' := (hcr.cell (p := ⟨lb, p, none⟩) hlb (by simp)).trans u0
                    have u1' := (hcr.cell (p := ⟨db, p, none⟩) hdb (by simp)).trans u1
                    have u2' := ((HC9.out.then hcr).cell (p := ⟨mb, p, none⟩) hmb (by simp)).trans u2
                    have hread := st_read2 W1 d D' D.names[p].1 (HSZ.out p hpn) _ (HS6.out.same ((HC8.out.then HC9.out).then hcr))
                    rw [HF2.out.read] at hread
                    generalize (readD D D.names[p].1).1 = rd at *
                    generalize (readD D D.names[p].1).2 = re at *
                    generalize D.names[p].1 = nm at *
                    have e1 : (nm.toList == nm.toList) = true := by simp
                    have e2 : (rd.toList == rd.toList) = true := by simp
                    have hlb' := Nat.lt_of_lt_of_le hlb hcr.size
                    have hdb' := Nat.lt_of_lt_of_le hdb hcr.size
                    have hmb' := Nat.lt_of_lt_of_le hmb (HC9.out.then hcr).size
                    have HRD := Lib.hid hread
                    have HCR := Lib.hid hcr
                    clear hread hcr u0 u1 u2
                    go_wp2_with fail
                    refine HRD.out.mono ?_
                    rintro e w10 ⟨rfl, hc10⟩
                    have v0 := (hc10.cell (p := ⟨lb, p, none⟩) hlb' (by simp)).trans u0'
                    have v1 := (hc10.cell (p := ⟨db, p, none⟩) hdb' (by simp)).trans u1'
                    have HC10 := Lib.hid (HCR.out.then hc10)
                    clear hc10 u0' u1' u2'
                    go_wp2_with fail
                    exact ⟨⟨p + 1, by omega, by go_num, HC10.out⟩, by simp [intOf]; omega⟩
                  · have hge9 : ¬ ((p : Int) < (q : Int)) := by omega
                    have HFIN := Lib.hid (HC1.out.then (((HS6.out.frame.then HC8.out).then HC9.out).then hcr))
                    clear hcr
                    go_wp2_with fail
                    go_ret
                    exact ⟨rfl, HFIN.out⟩
          · go_wp2_with fail
            refine (bd_append W1 d r _ D D _ k s0 t0 _ HKE.out HBS.out (by omega) hsm ht0).mono ?_
            rintro e w6 ⟨rfl, h6⟩
            obtain ⟨code, hcode⟩ : ∃ code, code = (appendD D s0 t0).1 := ⟨_, rfl⟩
            obtain ⟨D', hD'⟩ : ∃ D', D' = (appendD D s0 t0).2 := ⟨_, rfl⟩
            have hsf : code ≠ 0 → code ≠ 13 → SameF D D' := by rw [hcode, hD']; exact append_refused s0 t0
            rw [← hD'] at h6
            rw [← hcode]
            have HB6 := Lib.hid h6
            have HS6 := Lib.hid h6.state
            have HSF := Lib.hid hsf
            clear hcode hD' h6 hsf y0 y1 y2
            by_cases c0 : code = 0
            · subst c0
              go_wp2_with fail
              refine (disk_wakes _).mono ?_
              rintro e w7 ⟨rfl, hc7⟩
              have HC7 := Lib.hid hc7
              clear hc7
              go_wp2_with fail
              refine (disk_wakes _).mono ?_
              rintro e w8 ⟨rfl, hc8⟩
              have HC8 := Lib.hid (HC1.out.then (((HS6.out.frame).then HC7.out).then hc8))
              clear hc8
              go_wp2_with fail
              go_ret
              exact ⟨rfl, HC8.out⟩
            · by_cases c13 : code = 13
              · subst c13
                go_wp2_with fail
                refine (disk_wakes _).mono ?_
                rintro e w7 ⟨rfl, hc7⟩
                have HC7 := Lib.hid hc7
                clear hc7
                go_wp2_with fail
                refine (disk_wakes _).mono ?_
                rintro e w8 ⟨rfl, hc8⟩
                have HC8 := Lib.hid (HC1.out.then (((HS6.out.frame).then HC7.out).then hc8))
                clear hc8
                go_wp2_with fail
                go_ret
                exact ⟨rfl, HC8.out⟩
              · have hsf2 := HSF.out c0 c13
                have HF2 := Lib.hid hsf2
                clear hsf2
                have hd0 : decide (code = 0) = false := by simp [c0]
                have hd13 : decide (code = 13) = false := by simp [c13]
                have hq0 : (code == 0) = false := by simp [c0]
                have hq13 : (code == 13) = false := by simp [c13]
                go_wp2_with fail
                refine (disk_wakes _).mono ?_
                rintro e w7 ⟨rfl, hc7⟩
                have HC7 := Lib.hid hc7
                clear hc7
                go_wp2_with fail
                refine (HLI.out D' HF2.out _ (HS6.out.same HC7.out)).mono ?_
                rintro e w8 ⟨v8, rfl, hrow8, hc8⟩
                rw [HNN.out] at hrow8
                obtain ⟨ma, mc, rfl, _, _, hmread⟩ := row_form hrow8
                rw [← HNN.out]
                have HC8 := Lib.hid (HC7.out.then hc8)
                have HMR := Lib.hid hmread
                clear hrow8 hmread hc8
                go_wp2_with fail
                refine (st_used W1 d D' _ (HS6.out.same HC8.out) (by rw [HF2.out.1]; have := HNL.out; omega)).mono ?_
                rintro e w9 ⟨rfl, hc9⟩
                rw [HF2.out.used, ← HUS.out]
                have hk59 : ∀ k i v, ((Value.slice la q lc).ownBlock = some k ∨ (Value.slice da q dc).ownBlock = some k) → k < w5.heap.size → w5.cell? ⟨k, i, none⟩ = some v → k < w9.heap.size ∧ w9.cell? ⟨k, i, none⟩ = some v := fun k i v hk hl hv => by
                  have ho : w5.heap[k]? = some w5.heap[k] := Array.getElem?_eq_getElem hl
                  have h6 := HB6.out.holds (k := k) (o := w5.heap[k]) ⟨hk, ho⟩
                  have hl6 := heap_lt h6
                  have e6 : w6.cell? ⟨k, i, none⟩ = w5.cell? ⟨k, i, none⟩ := World.cell?_of_block (w := w5) (h6.trans ho.symm)
                  have h69 := HC8.out.then hc9
                  exact ⟨Nat.lt_of_lt_of_le hl6 h69.size, (h69.cell (p := ⟨k, i, none⟩) hl6 (by simp)).trans (e6.trans hv)⟩
                have hA : ∀ p, (hp : p < D.names.length) → ∃ b, la = some ⟨b, 0, none⟩ ∧ b < w9.heap.size ∧ w9.cell? ⟨b, p, none⟩ = some (.string D.names[p].1) := fun p hp => by
                  obtain ⟨b, hb, hbl, hc⟩ := HLR.out p hp
                  have h5 := (HC35.out.cell (p := ⟨b, p, none⟩) hbl (by simp)).trans hc
                  obtain ⟨h1, h2⟩ := hk59 b p _ (.inl (by rw [hb]; rfl)) (Nat.lt_of_lt_of_le hbl HC35.out.size) h5
                  exact ⟨b, hb, h1, h2⟩
                have hDt : ∀ p, (hp : p < D.names.length) → ∃ b, da = some ⟨b, 0, none⟩ ∧ b < w9.heap.size ∧ w9.cell? ⟨b, p, none⟩ = some (.string (readD D D.names[p].1).1) := fun p hp => by
                  obtain ⟨b, hb, hbl, hbo, hc⟩ := row_read (g := fun x => (readD D x.1).1) HNN.out HO5.out p hp
                  obtain ⟨h1, h2⟩ := hk59 b p _ (.inr hbo) hbl hc
                  exact ⟨b, hb, h1, h2⟩
                have HA := Lib.hid hA
                have HDt := Lib.hid hDt
                have HC9 := Lib.hid hc9
                clear hk59 hA hDt hc9 HB6 HO5 HLR HKE
                have hnq : (q : Int) ≤ 200 := by omega
                go_wp2_with fail
                go_loopw [128] (fun i wr => ∃ p : Nat, p ≤ q ∧ i = .int .i64 p ∧ Chg (fun _ => False) w9 wr) (fun i _ => q - (intOf i).toNat)
                case atStart => exact ⟨0, by omega, rfl, Chg.refl _ _⟩
                case round =>
                  obtain ⟨p, hp, rfl, hcr⟩ := hrel
                  by_cases hlt9 : p < q
                  · have hlt9' : (p : Int) < (q : Int) := by omega
                    have hge9 : (0 : Int) ≤ (p : Int) := by omega
                    have hpn : p < D.names.length := by rw [← HNN.out]; exact hlt9
                    obtain ⟨lb, rfl, hlb, u0⟩ := HA.out p hpn
                    obtain ⟨db, rfl, hdb, u1⟩ := HDt.out p hpn
                    obtain ⟨mb, rfl, hmb, u2⟩ := HMR.out p hpn
                    have u0' := (hcr.cell (p := ⟨lb, p, none⟩) hlb (by simp)).trans u0
                    have u1' := (hcr.cell (p := ⟨db, p, none⟩) hdb (by simp)).trans u1
                    have u2' := ((HC9.out.then hcr).cell (p := ⟨mb, p, none⟩) hmb (by simp)).trans u2
                    have hread := st_read2 W1 d D' D.names[p].1 (HSZ.out p hpn) _ (HS6.out.same ((HC8.out.then HC9.out).then hcr))
                    rw [HF2.out.read] at hread
                    generalize (readD D D.names[p].1).1 = rd at *
                    generalize (readD D D.names[p].1).2 = re at *
                    generalize D.names[p].1 = nm at *
                    have e1 : (nm.toList == nm.toList) = true := by simp
                    have e2 : (rd.toList == rd.toList) = true := by simp
                    have hlb' := Nat.lt_of_lt_of_le hlb hcr.size
                    have hdb' := Nat.lt_of_lt_of_le hdb hcr.size
                    have hmb' := Nat.lt_of_lt_of_le hmb (HC9.out.then hcr).size
                    have HRD := Lib.hid hread
                    have HCR := Lib.hid hcr
                    clear hread hcr u0 u1 u2
                    go_wp2_with fail
                    refine HRD.out.mono ?_
                    rintro e w10 ⟨rfl, hc10⟩
                    have v0 := (hc10.cell (p := ⟨lb, p, none⟩) hlb' (by simp)).trans u0'
                    have v1 := (hc10.cell (p := ⟨db, p, none⟩) hdb' (by simp)).trans u1'
                    have HC10 := Lib.hid (HCR.out.then hc10)
                    clear hc10 u0' u1' u2'
                    go_wp2_with fail
                    exact ⟨⟨p + 1, by omega, by go_num, HC10.out⟩, by simp [intOf]; omega⟩
                  · have hge9 : ¬ ((p : Int) < (q : Int)) := by omega
                    have HFIN := Lib.hid (HC1.out.then (((HS6.out.frame.then HC8.out).then HC9.out).then hcr))
                    clear hcr
                    go_wp2_with fail
                    go_ret
                    exact ⟨rfl, HFIN.out⟩
          · go_wp2_with fail
            refine (bd_sync W1 d r _ D D _ k s0 _ HKE.out HBS.out (by omega) hsm).mono ?_
            rintro e w6 ⟨rfl, h6⟩
            obtain ⟨code, hcode⟩ : ∃ code, code = (syncD D s0).1 := ⟨_, rfl⟩
            obtain ⟨D', hD'⟩ : ∃ D', D' = (syncD D s0).2 := ⟨_, rfl⟩
            have hsf : code ≠ 0 → code ≠ 13 → SameF D D' := by rw [hcode, hD']; exact sync_refused s0
            rw [← hD'] at h6
            rw [← hcode]
            have HB6 := Lib.hid h6
            have HS6 := Lib.hid h6.state
            have HSF := Lib.hid hsf
            clear hcode hD' h6 hsf y0 y1 y2
            by_cases c0 : code = 0
            · subst c0
              go_wp2_with fail
              refine (disk_wakes _).mono ?_
              rintro e w7 ⟨rfl, hc7⟩
              have HC7 := Lib.hid hc7
              clear hc7
              go_wp2_with fail
              refine (disk_wakes _).mono ?_
              rintro e w8 ⟨rfl, hc8⟩
              have HC8 := Lib.hid (HC1.out.then (((HS6.out.frame).then HC7.out).then hc8))
              clear hc8
              go_wp2_with fail
              go_ret
              exact ⟨rfl, HC8.out⟩
            · by_cases c13 : code = 13
              · subst c13
                go_wp2_with fail
                refine (disk_wakes _).mono ?_
                rintro e w7 ⟨rfl, hc7⟩
                have HC7 := Lib.hid hc7
                clear hc7
                go_wp2_with fail
                refine (disk_wakes _).mono ?_
                rintro e w8 ⟨rfl, hc8⟩
                have HC8 := Lib.hid (HC1.out.then (((HS6.out.frame).then HC7.out).then hc8))
                clear hc8
                go_wp2_with fail
                go_ret
                exact ⟨rfl, HC8.out⟩
              · have hsf2 := HSF.out c0 c13
                have HF2 := Lib.hid hsf2
                clear hsf2
                have hd0 : decide (code = 0) = false := by simp [c0]
                have hd13 : decide (code = 13) = false := by simp [c13]
                have hq0 : (code == 0) = false := by simp [c0]
                have hq13 : (code == 13) = false := by simp [c13]
                go_wp2_with fail
                refine (disk_wakes _).mono ?_
                rintro e w7 ⟨rfl, hc7⟩
                have HC7 := Lib.hid hc7
                clear hc7
                go_wp2_with fail
                refine (HLI.out D' HF2.out _ (HS6.out.same HC7.out)).mono ?_
                rintro e w8 ⟨v8, rfl, hrow8, hc8⟩
                rw [HNN.out] at hrow8
                obtain ⟨ma, mc, rfl, _, _, hmread⟩ := row_form hrow8
                rw [← HNN.out]
                have HC8 := Lib.hid (HC7.out.then hc8)
                have HMR := Lib.hid hmread
                clear hrow8 hmread hc8
                go_wp2_with fail
                refine (st_used W1 d D' _ (HS6.out.same HC8.out) (by rw [HF2.out.1]; have := HNL.out; omega)).mono ?_
                rintro e w9 ⟨rfl, hc9⟩
                rw [HF2.out.used, ← HUS.out]
                have hk59 : ∀ k i v, ((Value.slice la q lc).ownBlock = some k ∨ (Value.slice da q dc).ownBlock = some k) → k < w5.heap.size → w5.cell? ⟨k, i, none⟩ = some v → k < w9.heap.size ∧ w9.cell? ⟨k, i, none⟩ = some v := fun k i v hk hl hv => by
                  have ho : w5.heap[k]? = some w5.heap[k] := Array.getElem?_eq_getElem hl
                  have h6 := HB6.out.holds (k := k) (o := w5.heap[k]) ⟨hk, ho⟩
                  have hl6 := heap_lt h6
                  have e6 : w6.cell? ⟨k, i, none⟩ = w5.cell? ⟨k, i, none⟩ := World.cell?_of_block (w := w5) (h6.trans ho.symm)
                  have h69 := HC8.out.then hc9
                  exact ⟨Nat.lt_of_lt_of_le hl6 h69.size, (h69.cell (p := ⟨k, i, none⟩) hl6 (by simp)).trans (e6.trans hv)⟩
                have hA : ∀ p, (hp : p < D.names.length) → ∃ b, la = some ⟨b, 0, none⟩ ∧ b < w9.heap.size ∧ w9.cell? ⟨b, p, none⟩ = some (.string D.names[p].1) := fun p hp => by
                  obtain ⟨b, hb, hbl, hc⟩ := HLR.out p hp
                  have h5 := (HC35.out.cell (p := ⟨b, p, none⟩) hbl (by simp)).trans hc
                  obtain ⟨h1, h2⟩ := hk59 b p _ (.inl (by rw [hb]; rfl)) (Nat.lt_of_lt_of_le hbl HC35.out.size) h5
                  exact ⟨b, hb, h1, h2⟩
                have hDt : ∀ p, (hp : p < D.names.length) → ∃ b, da = some ⟨b, 0, none⟩ ∧ b < w9.heap.size ∧ w9.cell? ⟨b, p, none⟩ = some (.string (readD D D.names[p].1).1) := fun p hp => by
                  obtain ⟨b, hb, hbl, hbo, hc⟩ := row_read (g := fun x => (readD D x.1).1) HNN.out HO5.out p hp
                  obtain ⟨h1, h2⟩ := hk59 b p _ (.inr hbo) hbl hc
                  exact ⟨b, hb, h1, h2⟩
                have HA := Lib.hid hA
                have HDt := Lib.hid hDt
                have HC9 := Lib.hid hc9
                clear hk59 hA hDt hc9 HB6 HO5 HLR HKE
                have hnq : (q : Int) ≤ 200 := by omega
                go_wp2_with fail
                go_loopw [128] (fun i wr => ∃ p : Nat, p ≤ q ∧ i = .int .i64 p ∧ Chg (fun _ => False) w9 wr) (fun i _ => q - (intOf i).toNat)
                case atStart => exact ⟨0, by omega, rfl, Chg.refl _ _⟩
                case round =>
                  obtain ⟨p, hp, rfl, hcr⟩ := hrel
                  by_cases hlt9 : p < q
                  · have hlt9' : (p : Int) < (q : Int) := by omega
                    have hge9 : (0 : Int) ≤ (p : Int) := by omega
                    have hpn : p < D.names.length := by rw [← HNN.out]; exact hlt9
                    obtain ⟨lb, rfl, hlb, u0⟩ := HA.out p hpn
                    obtain ⟨db, rfl, hdb, u1⟩ := HDt.out p hpn
                    obtain ⟨mb, rfl, hmb, u2⟩ := HMR.out p hpn
                    have u0' := (hcr.cell (p := ⟨lb, p, none⟩) hlb (by simp)).trans u0
                    have u1' := (hcr.cell (p := ⟨db, p, none⟩) hdb (by simp)).trans u1
                    have u2' := ((HC9.out.then hcr).cell (p := ⟨mb, p, none⟩) hmb (by simp)).trans u2
                    have hread := st_read2 W1 d D' D.names[p].1 (HSZ.out p hpn) _ (HS6.out.same ((HC8.out.then HC9.out).then hcr))
                    rw [HF2.out.read] at hread
                    generalize (readD D D.names[p].1).1 = rd at *
                    generalize (readD D D.names[p].1).2 = re at *
                    generalize D.names[p].1 = nm at *
                    have e1 : (nm.toList == nm.toList) = true := by simp
                    have e2 : (rd.toList == rd.toList) = true := by simp
                    have hlb' := Nat.lt_of_lt_of_le hlb hcr.size
                    have hdb' := Nat.lt_of_lt_of_le hdb hcr.size
                    have hmb' := Nat.lt_of_lt_of_le hmb (HC9.out.then hcr).size
                    have HRD := Lib.hid hread
                    have HCR := Lib.hid hcr
                    clear hread hcr u0 u1 u2
                    go_wp2_with fail
                    refine HRD.out.mono ?_
                    rintro e w10 ⟨rfl, hc10⟩
                    have v0 := (hc10.cell (p := ⟨lb, p, none⟩) hlb' (by simp)).trans u0'
                    have v1 := (hc10.cell (p := ⟨db, p, none⟩) hdb' (by simp)).trans u1'
                    have HC10 := Lib.hid (HCR.out.then hc10)
                    clear hc10 u0' u1' u2'
                    go_wp2_with fail
                    exact ⟨⟨p + 1, by omega, by go_num, HC10.out⟩, by simp [intOf]; omega⟩
                  · have hge9 : ¬ ((p : Int) < (q : Int)) := by omega
                    have HFIN := Lib.hid (HC1.out.then (((HS6.out.frame.then HC8.out).then HC9.out).then hcr))
                    clear hcr
                    go_wp2_with fail
                    go_ret
                    exact ⟨rfl, HFIN.out⟩
          · go_wp2_with fail
            refine (bd_rename W1 d r _ D D _ k s0 t0 _ HKE.out HBS.out (by omega) hsm htm).mono ?_
            rintro e w6 ⟨rfl, h6⟩
            obtain ⟨code, hcode⟩ : ∃ code, code = (renameD D s0 t0).1 := ⟨_, rfl⟩
            obtain ⟨D', hD'⟩ : ∃ D', D' = (renameD D s0 t0).2 := ⟨_, rfl⟩
            have hsf : code ≠ 0 → code ≠ 13 → SameF D D' := by rw [hcode, hD']; exact rename_refused s0 t0
            rw [← hD'] at h6
            rw [← hcode]
            have HB6 := Lib.hid h6
            have HS6 := Lib.hid h6.state
            have HSF := Lib.hid hsf
            clear hcode hD' h6 hsf y0 y1 y2
            by_cases c0 : code = 0
            · subst c0
              go_wp2_with fail
              refine (disk_wakes _).mono ?_
              rintro e w7 ⟨rfl, hc7⟩
              have HC7 := Lib.hid hc7
              clear hc7
              go_wp2_with fail
              refine (disk_wakes _).mono ?_
              rintro e w8 ⟨rfl, hc8⟩
              have HC8 := Lib.hid (HC1.out.then (((HS6.out.frame).then HC7.out).then hc8))
              clear hc8
              go_wp2_with fail
              go_ret
              exact ⟨rfl, HC8.out⟩
            · by_cases c13 : code = 13
              · subst c13
                go_wp2_with fail
                refine (disk_wakes _).mono ?_
                rintro e w7 ⟨rfl, hc7⟩
                have HC7 := Lib.hid hc7
                clear hc7
                go_wp2_with fail
                refine (disk_wakes _).mono ?_
                rintro e w8 ⟨rfl, hc8⟩
                have HC8 := Lib.hid (HC1.out.then (((HS6.out.frame).then HC7.out).then hc8))
                clear hc8
                go_wp2_with fail
                go_ret
                exact ⟨rfl, HC8.out⟩
              · have hsf2 := HSF.out c0 c13
                have HF2 := Lib.hid hsf2
                clear hsf2
                have hd0 : decide (code = 0) = false := by simp [c0]
                have hd13 : decide (code = 13) = false := by simp [c13]
                have hq0 : (code == 0) = false := by simp [c0]
                have hq13 : (code == 13) = false := by simp [c13]
                go_wp2_with fail
                refine (disk_wakes _).mono ?_
                rintro e w7 ⟨rfl, hc7⟩
                have HC7 := Lib.hid hc7
                clear hc7
                go_wp2_with fail
                refine (HLI.out D' HF2.out _ (HS6.out.same HC7.out)).mono ?_
                rintro e w8 ⟨v8, rfl, hrow8, hc8⟩
                rw [HNN.out] at hrow8
                obtain ⟨ma, mc, rfl, _, _, hmread⟩ := row_form hrow8
                rw [← HNN.out]
                have HC8 := Lib.hid (HC7.out.then hc8)
                have HMR := Lib.hid hmread
                clear hrow8 hmread hc8
                go_wp2_with fail
                refine (st_used W1 d D' _ (HS6.out.same HC8.out) (by rw [HF2.out.1]; have := HNL.out; omega)).mono ?_
                rintro e w9 ⟨rfl, hc9⟩
                rw [HF2.out.used, ← HUS.out]
                have hk59 : ∀ k i v, ((Value.slice la q lc).ownBlock = some k ∨ (Value.slice da q dc).ownBlock = some k) → k < w5.heap.size → w5.cell? ⟨k, i, none⟩ = some v → k < w9.heap.size ∧ w9.cell? ⟨k, i, none⟩ = some v := fun k i v hk hl hv => by
                  have ho : w5.heap[k]? = some w5.heap[k] := Array.getElem?_eq_getElem hl
                  have h6 := HB6.out.holds (k := k) (o := w5.heap[k]) ⟨hk, ho⟩
                  have hl6 := heap_lt h6
                  have e6 : w6.cell? ⟨k, i, none⟩ = w5.cell? ⟨k, i, none⟩ := World.cell?_of_block (w := w5) (h6.trans ho.symm)
                  have h69 := HC8.out.then hc9
                  exact ⟨Nat.lt_of_lt_of_le hl6 h69.size, (h69.cell (p := ⟨k, i, none⟩) hl6 (by simp)).trans (e6.trans hv)⟩
                have hA : ∀ p, (hp : p < D.names.length) → ∃ b, la = some ⟨b, 0, none⟩ ∧ b < w9.heap.size ∧ w9.cell? ⟨b, p, none⟩ = some (.string D.names[p].1) := fun p hp => by
                  obtain ⟨b, hb, hbl, hc⟩ := HLR.out p hp
                  have h5 := (HC35.out.cell (p := ⟨b, p, none⟩) hbl (by simp)).trans hc
                  obtain ⟨h1, h2⟩ := hk59 b p _ (.inl (by rw [hb]; rfl)) (Nat.lt_of_lt_of_le hbl HC35.out.size) h5
                  exact ⟨b, hb, h1, h2⟩
                have hDt : ∀ p, (hp : p < D.names.length) → ∃ b, da = some ⟨b, 0, none⟩ ∧ b < w9.heap.size ∧ w9.cell? ⟨b, p, none⟩ = some (.string (readD D D.names[p].1).1) := fun p hp => by
                  obtain ⟨b, hb, hbl, hbo, hc⟩ := row_read (g := fun x => (readD D x.1).1) HNN.out HO5.out p hp
                  obtain ⟨h1, h2⟩ := hk59 b p _ (.inr hbo) hbl hc
                  exact ⟨b, hb, h1, h2⟩
                have HA := Lib.hid hA
                have HDt := Lib.hid hDt
                have HC9 := Lib.hid hc9
                clear hk59 hA hDt hc9 HB6 HO5 HLR HKE
                have hnq : (q : Int) ≤ 200 := by omega
                go_wp2_with fail
                go_loopw [128] (fun i wr => ∃ p : Nat, p ≤ q ∧ i = .int .i64 p ∧ Chg (fun _ => False) w9 wr) (fun i _ => q - (intOf i).toNat)
                case atStart => exact ⟨0, by omega, rfl, Chg.refl _ _⟩
                case round =>
                  obtain ⟨p, hp, rfl, hcr⟩ := hrel
                  by_cases hlt9 : p < q
                  · have hlt9' : (p : Int) < (q : Int) := by omega
                    have hge9 : (0 : Int) ≤ (p : Int) := by omega
                    have hpn : p < D.names.length := by rw [← HNN.out]; exact hlt9
                    obtain ⟨lb, rfl, hlb, u0⟩ := HA.out p hpn
                    obtain ⟨db, rfl, hdb, u1⟩ := HDt.out p hpn
                    obtain ⟨mb, rfl, hmb, u2⟩ := HMR.out p hpn
                    have u0' := (hcr.cell (p := ⟨lb, p, none⟩) hlb (by simp)).trans u0
                    have u1' := (hcr.cell (p := ⟨db, p, none⟩) hdb (by simp)).trans u1
                    have u2' := ((HC9.out.then hcr).cell (p := ⟨mb, p, none⟩) hmb (by simp)).trans u2
                    have hread := st_read2 W1 d D' D.names[p].1 (HSZ.out p hpn) _ (HS6.out.same ((HC8.out.then HC9.out).then hcr))
                    rw [HF2.out.read] at hread
                    generalize (readD D D.names[p].1).1 = rd at *
                    generalize (readD D D.names[p].1).2 = re at *
                    generalize D.names[p].1 = nm at *
                    have e1 : (nm.toList == nm.toList) = true := by simp
                    have e2 : (rd.toList == rd.toList) = true := by simp
                    have hlb' := Nat.lt_of_lt_of_le hlb hcr.size
                    have hdb' := Nat.lt_of_lt_of_le hdb hcr.size
                    have hmb' := Nat.lt_of_lt_of_le hmb (HC9.out.then hcr).size
                    have HRD := Lib.hid hread
                    have HCR := Lib.hid hcr
                    clear hread hcr u0 u1 u2
                    go_wp2_with fail
                    refine HRD.out.mono ?_
                    rintro e w10 ⟨rfl, hc10⟩
                    have v0 := (hc10.cell (p := ⟨lb, p, none⟩) hlb' (by simp)).trans u0'
                    have v1 := (hc10.cell (p := ⟨db, p, none⟩) hdb' (by simp)).trans u1'
                    have HC10 := Lib.hid (HCR.out.then hc10)
                    clear hc10 u0' u1' u2'
                    go_wp2_with fail
                    exact ⟨⟨p + 1, by omega, by go_num, HC10.out⟩, by simp [intOf]; omega⟩
                  · have hge9 : ¬ ((p : Int) < (q : Int)) := by omega
                    have HFIN := Lib.hid (HC1.out.then (((HS6.out.frame.then HC8.out).then HC9.out).then hcr))
                    clear hcr
                    go_wp2_with fail
                    go_ret
                    exact ⟨rfl, HFIN.out⟩
          · go_wp2_with fail
            refine (bd_remove W1 d r _ D D _ k s0 _ HKE.out HBS.out (by omega) hsm).mono ?_
            rintro e w6 ⟨rfl, h6⟩
            obtain ⟨code, hcode⟩ : ∃ code, code = (removeD D s0).1 := ⟨_, rfl⟩
            obtain ⟨D', hD'⟩ : ∃ D', D' = (removeD D s0).2 := ⟨_, rfl⟩
            have hsf : code ≠ 0 → code ≠ 13 → SameF D D' := by rw [hcode, hD']; exact remove_refused s0
            rw [← hD'] at h6
            rw [← hcode]
            have HB6 := Lib.hid h6
            have HS6 := Lib.hid h6.state
            have HSF := Lib.hid hsf
            clear hcode hD' h6 hsf y0 y1 y2
            by_cases c0 : code = 0
            · subst c0
              go_wp2_with fail
              refine (disk_wakes _).mono ?_
              rintro e w7 ⟨rfl, hc7⟩
              have HC7 := Lib.hid hc7
              clear hc7
              go_wp2_with fail
              refine (disk_wakes _).mono ?_
              rintro e w8 ⟨rfl, hc8⟩
              have HC8 := Lib.hid (HC1.out.then (((HS6.out.frame).then HC7.out).then hc8))
              clear hc8
              go_wp2_with fail
              go_ret
              exact ⟨rfl, HC8.out⟩
            · by_cases c13 : code = 13
              · subst c13
                go_wp2_with fail
                refine (disk_wakes _).mono ?_
                rintro e w7 ⟨rfl, hc7⟩
                have HC7 := Lib.hid hc7
                clear hc7
                go_wp2_with fail
                refine (disk_wakes _).mono ?_
                rintro e w8 ⟨rfl, hc8⟩
                have HC8 := Lib.hid (HC1.out.then (((HS6.out.frame).then HC7.out).then hc8))
                clear hc8
                go_wp2_with fail
                go_ret
                exact ⟨rfl, HC8.out⟩
              · have hsf2 := HSF.out c0 c13
                have HF2 := Lib.hid hsf2
                clear hsf2
                have hd0 : decide (code = 0) = false := by simp [c0]
                have hd13 : decide (code = 13) = false := by simp [c13]
                have hq0 : (code == 0) = false := by simp [c0]
                have hq13 : (code == 13) = false := by simp [c13]
                go_wp2_with fail
                refine (disk_wakes _).mono ?_
                rintro e w7 ⟨rfl, hc7⟩
                have HC7 := Lib.hid hc7
                clear hc7
                go_wp2_with fail
                refine (HLI.out D' HF2.out _ (HS6.out.same HC7.out)).mono ?_
                rintro e w8 ⟨v8, rfl, hrow8, hc8⟩
                rw [HNN.out] at hrow8
                obtain ⟨ma, mc, rfl, _, _, hmread⟩ := row_form hrow8
                rw [← HNN.out]
                have HC8 := Lib.hid (HC7.out.then hc8)
                have HMR := Lib.hid hmread
                clear hrow8 hmread hc8
                go_wp2_with fail
                refine (st_used W1 d D' _ (HS6.out.same HC8.out) (by rw [HF2.out.1]; have := HNL.out; omega)).mono ?_
                rintro e w9 ⟨rfl, hc9⟩
                rw [HF2.out.used, ← HUS.out]
                have hk59 : ∀ k i v, ((Value.slice la q lc).ownBlock = some k ∨ (Value.slice da q dc).ownBlock = some k) → k < w5.heap.size → w5.cell? ⟨k, i, none⟩ = some v → k < w9.heap.size ∧ w9.cell? ⟨k, i, none⟩ = some v := fun k i v hk hl hv => by
                  have ho : w5.heap[k]? = some w5.heap[k] := Array.getElem?_eq_getElem hl
                  have h6 := HB6.out.holds (k := k) (o := w5.heap[k]) ⟨hk, ho⟩
                  have hl6 := heap_lt h6
                  have e6 : w6.cell? ⟨k, i, none⟩ = w5.cell? ⟨k, i, none⟩ := World.cell?_of_block (w := w5) (h6.trans ho.symm)
                  have h69 := HC8.out.then hc9
                  exact ⟨Nat.lt_of_lt_of_le hl6 h69.size, (h69.cell (p := ⟨k, i, none⟩) hl6 (by simp)).trans (e6.trans hv)⟩
                have hA : ∀ p, (hp : p < D.names.length) → ∃ b, la = some ⟨b, 0, none⟩ ∧ b < w9.heap.size ∧ w9.cell? ⟨b, p, none⟩ = some (.string D.names[p].1) := fun p hp => by
                  obtain ⟨b, hb, hbl, hc⟩ := HLR.out p hp
                  have h5 := (HC35.out.cell (p := ⟨b, p, none⟩) hbl (by simp)).trans hc
                  obtain ⟨h1, h2⟩ := hk59 b p _ (.inl (by rw [hb]; rfl)) (Nat.lt_of_lt_of_le hbl HC35.out.size) h5
                  exact ⟨b, hb, h1, h2⟩
                have hDt : ∀ p, (hp : p < D.names.length) → ∃ b, da = some ⟨b, 0, none⟩ ∧ b < w9.heap.size ∧ w9.cell? ⟨b, p, none⟩ = some (.string (readD D D.names[p].1).1) := fun p hp => by
                  obtain ⟨b, hb, hbl, hbo, hc⟩ := row_read (g := fun x => (readD D x.1).1) HNN.out HO5.out p hp
                  obtain ⟨h1, h2⟩ := hk59 b p _ (.inr hbo) hbl hc
                  exact ⟨b, hb, h1, h2⟩
                have HA := Lib.hid hA
                have HDt := Lib.hid hDt
                have HC9 := Lib.hid hc9
                clear hk59 hA hDt hc9 HB6 HO5 HLR HKE
                have hnq : (q : Int) ≤ 200 := by omega
                go_wp2_with fail
                go_loopw [128] (fun i wr => ∃ p : Nat, p ≤ q ∧ i = .int .i64 p ∧ Chg (fun _ => False) w9 wr) (fun i _ => q - (intOf i).toNat)
                case atStart => exact ⟨0, by omega, rfl, Chg.refl _ _⟩
                case round =>
                  obtain ⟨p, hp, rfl, hcr⟩ := hrel
                  by_cases hlt9 : p < q
                  · have hlt9' : (p : Int) < (q : Int) := by omega
                    have hge9 : (0 : Int) ≤ (p : Int) := by omega
                    have hpn : p < D.names.length := by rw [← HNN.out]; exact hlt9
                    obtain ⟨lb, rfl, hlb, u0⟩ := HA.out p hpn
                    obtain ⟨db, rfl, hdb, u1⟩ := HDt.out p hpn
                    obtain ⟨mb, rfl, hmb, u2⟩ := HMR.out p hpn
                    have u0' := (hcr.cell (p := ⟨lb, p, none⟩) hlb (by simp)).trans u0
                    have u1' := (hcr.cell (p := ⟨db, p, none⟩) hdb (by simp)).trans u1
                    have u2' := ((HC9.out.then hcr).cell (p := ⟨mb, p, none⟩) hmb (by simp)).trans u2
                    have hread := st_read2 W1 d D' D.names[p].1 (HSZ.out p hpn) _ (HS6.out.same ((HC8.out.then HC9.out).then hcr))
                    rw [HF2.out.read] at hread
                    generalize (readD D D.names[p].1).1 = rd at *
                    generalize (readD D D.names[p].1).2 = re at *
                    generalize D.names[p].1 = nm at *
                    have e1 : (nm.toList == nm.toList) = true := by simp
                    have e2 : (rd.toList == rd.toList) = true := by simp
                    have hlb' := Nat.lt_of_lt_of_le hlb hcr.size
                    have hdb' := Nat.lt_of_lt_of_le hdb hcr.size
                    have hmb' := Nat.lt_of_lt_of_le hmb (HC9.out.then hcr).size
                    have HRD := Lib.hid hread
                    have HCR := Lib.hid hcr
                    clear hread hcr u0 u1 u2
                    go_wp2_with fail
                    refine HRD.out.mono ?_
                    rintro e w10 ⟨rfl, hc10⟩
                    have v0 := (hc10.cell (p := ⟨lb, p, none⟩) hlb' (by simp)).trans u0'
                    have v1 := (hc10.cell (p := ⟨db, p, none⟩) hdb' (by simp)).trans u1'
                    have HC10 := Lib.hid (HCR.out.then hc10)
                    clear hc10 u0' u1' u2'
                    go_wp2_with fail
                    exact ⟨⟨p + 1, by omega, by go_num, HC10.out⟩, by simp [intOf]; omega⟩
                  · have hge9 : ¬ ((p : Int) < (q : Int)) := by omega
                    have HFIN := Lib.hid (HC1.out.then (((HS6.out.frame.then HC8.out).then HC9.out).then hcr))
                    clear hcr
                    go_wp2_with fail
                    go_ret
                    exact ⟨rfl, HFIN.out⟩
end Go.Proofs.Ytlcggocfkanblaa
