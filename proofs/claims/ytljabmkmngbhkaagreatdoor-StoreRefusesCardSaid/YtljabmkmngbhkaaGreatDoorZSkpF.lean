/-
  One tower more: the walk of Put.
-/
import Derived.Test.YtljabmkmngbhkaaGreatDoorZMg18
import Derived.RegionTactic
import Derived.BigRegion
import Derived.Deep.RegionLaw
namespace Go.Proofs.YtljabmkmngbhkaaGreatDoor
open Go.RowKit
set_option linter.unusedVariables false
set_option linter.unusedSimpArgs false

theorem kf_chg {w w' : World} {p : Addr} {v : Value} (hc : Chg (fun _ => False) w w') (hv : w.cell? p = some v) (h : w.frozen? p = false) : w'.frozen? p = false := (hc.frozen (World.block_lt_of_cell? w p hv) (by simp)).trans h
set_option maxRecDepth 100000 in
set_option maxHeartbeats 8000000 in
theorem sk_put (l hb : Nat) (cv : Value) (coins : List Int) (N : List NodeV) (size : Int) (e : EntryV) (hg : goodK e = 0) (hfit : EntFit e) (hn : ∀ m ∈ N, cmpE m.e e ≠ 0) (hlen : N.length < 1000000000) (w : World) (h : SkipAt w l hb cv coins N size) : Calls Tryz.prog 95 #[.pointer (some ⟨l, 0, none⟩), entA e] w (PutPost w l hb cv coins N size e) := by
  obtain ⟨be, hbe⟩ : ∃ be, w.heap.size = be := ⟨_, rfl⟩
  obtain ⟨w1, hw1⟩ : ∃ w1, w1 = w.alloc (.cells #[.string e.key, .int .i64 e.seq, .bool e.gone, .string e.value, .int .i64 e.till] 41) := ⟨_, rfl⟩
  have hb1 : Blk w1 be 41 #[.string e.key, .int .i64 e.seq, .bool e.gone, .string e.value, .int .i64 e.till] := by rw [hw1, ← hbe]; exact Blk.new _ _ _
  have hc1 : Chg (fun _ => False) w w1 := by rw [hw1]; exact (Chg.refl _ _).alloc _
  have hgd := fun W => sk_good e W
  rw [hg] at hgd
  obtain ⟨hk64, hv512⟩ := goodK_zero hg
  have HGD2 := Lib.hid hg
  have y0 := hb1.cell 0
  have y1 := hb1.cell 1
  have y2 := hb1.cell 2
  have y3 := hb1.cell 3
  have y4 := hb1.cell 4
  simp at y0 y1 y2 y3 y4
  have HW1 := Lib.hid hw1
  have HB1 := Lib.hid hb1
  have HC1 := Lib.hid hc1
  have H := Lib.hid h
  have HN := Lib.hid hn
  have HBE := Lib.hid hbe
  have HGD := Lib.hid hgd
  clear hw1 hb1 hc1 h hn hbe hgd
  clear hg
  unfold entA
  go_enter Tryz.func95, Tryz.ntmps95
  go_upto_region 1 with fail
  rw [HBE.out]
  rw [← HW1.out]
  go_wp2_with fail
  refine (HGD.out _).mono ?_
  rintro r w2 ⟨rfl, hc2⟩
  have hb2 := HB1.out.chg hc2 (by simp)
  clear y0 y1 y2 y3 y4
  have y0 := hb2.cell 0
  have y1 := hb2.cell 1
  have y2 := hb2.cell 2
  have y3 := hb2.cell 3
  have y4 := hb2.cell 4
  simp at y0 y1 y2 y3 y4
  have hah := sk_ahead l hb cv coins N size e w2 (H.out.same (HC1.out.then hc2))
  have HB2 := Lib.hid hb2
  have HC2 := Lib.hid hc2
  have HAH := Lib.hid hah
  clear hb2 hc2 hah
  go_wp2_with fail
  refine HAH.out.mono ?_
  rintro r w3 ⟨c, rfl, hla, hc3⟩
  have hb3 := HB2.out.chg hc3 (by simp)
  obtain ⟨b0, o0, d0⟩ := atp_form l (c 0)
  obtain ⟨b1, o1, d1⟩ := atp_form l (c 1)
  obtain ⟨b2, o2, d2⟩ := atp_form l (c 2)
  obtain ⟨b3, o3, d3⟩ := atp_form l (c 3)
  obtain ⟨b4, o4, d4⟩ := atp_form l (c 4)
  obtain ⟨b5, o5, d5⟩ := atp_form l (c 5)
  obtain ⟨b6, o6, d6⟩ := atp_form l (c 6)
  obtain ⟨b7, o7, d7⟩ := atp_form l (c 7)
  rw [d0, d1, d2, d3, d4, d5, d6, d7]
  clear y0 y1 y2 y3 y4
  have HB3 := Lib.hid hb3
  have HC3 := Lib.hid hc3
  have HLA := Lib.hid hla
  have D0 := Lib.hid d0
  have D1 := Lib.hid d1
  have D2 := Lib.hid d2
  have D3 := Lib.hid d3
  have D4 := Lib.hid d4
  have D5 := Lib.hid d5
  have D6 := Lib.hid d6
  have D7 := Lib.hid d7
  clear hb3 hc3 hla d0 d1 d2 d3 d4 d5 d6 d7
  go_upto_region 7 with fail
  obtain ⟨w4, hw4⟩ : ∃ w4, w4 = w3.alloc (.cells #[.pointer (some ⟨b0, o0, none⟩), .pointer (some ⟨b1, o1, none⟩), .pointer (some ⟨b2, o2, none⟩), .pointer (some ⟨b3, o3, none⟩), .pointer (some ⟨b4, o4, none⟩), .pointer (some ⟨b5, o5, none⟩), .pointer (some ⟨b6, o6, none⟩), .pointer (some ⟨b7, o7, none⟩)] 277) := ⟨_, rfl⟩
  have hba4 : Blk w4 w3.heap.size 277 #[.pointer (some ⟨b0, o0, none⟩), .pointer (some ⟨b1, o1, none⟩), .pointer (some ⟨b2, o2, none⟩), .pointer (some ⟨b3, o3, none⟩), .pointer (some ⟨b4, o4, none⟩), .pointer (some ⟨b5, o5, none⟩), .pointer (some ⟨b6, o6, none⟩), .pointer (some ⟨b7, o7, none⟩)] := by rw [hw4]; exact Blk.new _ _ _
  have hc34 : Chg (fun _ => False) w3 w4 := by rw [hw4]; exact (Chg.refl _ _).alloc _
  rw [← hw4]
  have hc04 := ((HC1.out.then HC2.out).then HC3.out).then hc34
  have hb4 := HB3.out.chg hc34 (by simp)
  have hah : w.heap.size ≤ w3.heap.size := ((HC1.out.then HC2.out).then HC3.out).size
  obtain ⟨ah, hahe⟩ : ∃ ah, w3.heap.size = ah := ⟨_, rfl⟩
  rw [hahe] at hba4 hah ⊢
  have hbah : be ≠ ah := hb4.ne_ hba4 (by decide)
  have hS4 := H.out.same hc04
  have hcn := hS4.fit
  obtain ⟨T, hT⟩ : ∃ T, aheadN N e = T := ⟨_, rfl⟩
  obtain ⟨D, hD⟩ : ∃ D, behindN N e = D := ⟨_, rfl⟩
  have hN : N = T ++ D := by rw [← hT, ← hD]; exact split_N N e
  have hla := HLA.out
  rw [hT] at hla
  have hgr := (hla 0 (by omega)).ground fun m hm => (hcn m (by rw [hN]; simp [hm])).2.1
  obtain ⟨ab, ao, lb, hh, ea, xa, hh8, hab, hlb, hf⟩ := hS4.at_ hN
  rw [← hgr, D0.out] at ea
  injection ea with ea
  injection ea with ea
  injection ea with ea ea2
  subst ea ea2
  obtain ⟨hh0, xl⟩ := hf 0 (fun n hn => by
    have hm : n ∈ T := List.mem_of_getLast? hn
    have := (hcn n (by rw [hN]; simp [hm])).2.1
    omega) (by omega)
  have hq1 : (0 : Int) < (hh : Int) := by omega
  have a0 := hba4.cell 0
  simp at a0
  have hcmps : ∀ m ∈ D, cmpE m.e e ≠ 0 := fun m hm => HN.out m (by rw [hN]; simp [hm])
  have hnD : nextF D 0 = D.head? := nextF_ground fun m hm => (hcn m (by rw [hN]; simp [hm])).2.1
  rw [hnD] at xl
  have HW4 := Lib.hid hw4
  have HBA4 := Lib.hid hba4
  have HC04 := Lib.hid hc04
  have HB4 := Lib.hid hb4
  have HS4 := Lib.hid hS4
  have HCN := Lib.hid hcn
  have HT := Lib.hid hT
  have HD := Lib.hid hD
  have HNN := Lib.hid hN
  have HLT := Lib.hid hla
  have HCMPS := Lib.hid hcmps
  clear hw4 hba4 hc04 hb4 hS4 hcn hT hD hN hla hcmps
  clear hgr hf hc34 hnD hab hlb HLA
  go_upto_region 8 with fail
  clear xa xl a0
  go_cut [7, 37] (fun n x w' => x = .bool false ∧ Chg (fun _ => False) w4 w')
  case first =>
    cases hm : D.head? with
    | none =>
      rw [show tptr none = Value.pointer none from rfl]
      clear hm
      go_quiet (fail)
      go_wp2_with fail
      go_meet
      exact ⟨rfl, (Chg.refl _ _).drewN _⟩
    | some m =>
      have hmD : m ∈ D := List.mem_of_head? hm
      have hz := HCMPS.out m hmD
      have hnode : Blk w4 m.b 146 _ := HS4.out.node (m := m) (by rw [HNN.out]; simp [hmD])
      have x0 := hnode.cell 0
      have x1 := hnode.cell 1
      have x2 := hnode.cell 2
      have x3 := hnode.cell 3
      have x4 := hnode.cell 4
      simp at x0 x1 x2 x3 x4
      have y0 := HB4.out.cell 0
      have y1 := HB4.out.cell 1
      have y2 := HB4.out.cell 2
      have y3 := HB4.out.cell 3
      have y4 := HB4.out.cell 4
      simp at y0 y1 y2 y3 y4
      have hls := fun W => sk_cmp m.e e W
      generalize cmpE m.e e = cv' at hls hz
      have hz1 : (cv' == 0) = false := by simp [hz]
      rw [show tptr (some m) = Value.pointer (some ⟨m.b, 0, none⟩) from rfl]
      have HLS := Lib.hid hls
      clear hls
      clear hnode hmD hm hz
      go_region_held3 (fun w' => w'.cell? ⟨m.b, 0, none⟩ = some (.string m.e.key) ∧ w'.cell? ⟨m.b, 1, none⟩ = some (.int .i64 m.e.seq) ∧ w'.cell? ⟨m.b, 2, none⟩ = some (.bool m.e.gone) ∧ w'.cell? ⟨m.b, 3, none⟩ = some (.string m.e.value) ∧ w'.cell? ⟨m.b, 4, none⟩ = some (.int .i64 m.e.till) ∧ w'.cell? ⟨be, 0, none⟩ = some (.string e.key) ∧ w'.cell? ⟨be, 1, none⟩ = some (.int .i64 e.seq) ∧ w'.cell? ⟨be, 2, none⟩ = some (.bool e.gone) ∧ w'.cell? ⟨be, 3, none⟩ = some (.string e.value) ∧ w'.cell? ⟨be, 4, none⟩ = some (.int .i64 e.till))
        ((go_split_ands; (repeat' (with_reducible refine And.intro ?_ ?_)) <;> (repeat (first | with_reducible assumption | with_reducible refine ky_drew ?_ | with_reducible refine ky_chg hc5 ?_))))
        (first | (go_at_call 178; refine (HLS.out _).mono ?_; rintro r w5 ⟨rfl, hc5⟩))
      have hc5 := Chg.then (Chg.drew (Chg.refl (fun _ => False) w4)) hc5
      have HC5 := Lib.hid hc5
      clear hc5
      go_wp2_with fail
      go_meet
      exact ⟨rfl, HC5.out⟩
  case rest =>
    obtain ⟨rfl, hcc⟩ := hcut
    obtain ⟨w5, hw5⟩ : ∃ w5, w5 = wc := ⟨_, rfl⟩
    rw [← hw5] at hcc ⊢
    clear hw5
    have hc05 := HC04.out.then hcc
    have hb5 := HB4.out.chg hcc (by simp)
    have hba5 := HBA4.out.chg hcc (by simp)
    have hS5 := H.out.same hc05
    clear hcc
    have hk64' := And.intro hk64 hv512
    have hcost := fun W (hW : Chg (fun _ => False) w5 W) => sk_cost l hb cv coins N size e hk64' W (hS5.same hW)
    obtain ⟨h1, h8⟩ := heightV_le coins N.length
    obtain ⟨ht, hht⟩ : ∃ ht, heightV coins N.length = ht := ⟨_, rfl⟩
    rw [hht] at hcost h1 h8
    have hcb : 0 ≤ costE ht e ∧ costE ht e ≤ 1000000 := by unfold costE; omega
    obtain ⟨ce, hce⟩ : ∃ ce, costE ht e = ce := ⟨_, rfl⟩
    rw [hce] at hcost hcb
    obtain ⟨sz0, sz1⟩ := hS5.sz
    have hadd := IntWalk.i64_in (size + ce) (by omega)
    have z8 := hS5.blk.cell 8
    simp at z8
    have f8 := hS5.blk.frozen 8
    have y0 := hb5.cell 0
    have y1 := hb5.cell 1
    have y2 := hb5.cell 2
    have y3 := hb5.cell 3
    have y4 := hb5.cell 4
    simp at y0 y1 y2 y3 y4
    have HC05 := Lib.hid hc05
    have HB5 := Lib.hid hb5
    have HBA5 := Lib.hid hba5
    have HS5 := Lib.hid hS5
    have HCOST := Lib.hid hcost
    have HHT := Lib.hid hht
    have HCE := Lib.hid hce
    clear hc05 hb5 hba5 hS5 hcost hht hce
    go_wp2_with fail
    go_cut [] (fun w' => ∃ wv, Chg (fun _ => False) w5 wv ∧ w' = wv.setCell ⟨l, 8, none⟩ (.int .i64 (size + ce)))
    case first =>
      go_wp2_with fail
      go_region_with ((go_at_call 179; refine (HCOST.out _ cgS).mono ?_; rintro r w6 ⟨rfl, hc6⟩; have q8 := ky_chg hc6 z8; have qf := kf_chg hc6 z8 f8))
      all_goals go_wp2_with fail
      all_goals go_meet
      all_goals exact ⟨w6, Chg.then cgS hc6, rfl⟩
    case rest =>
      obtain ⟨wv, hcv, hw6⟩ := hcut
      obtain ⟨w6, hw6'⟩ : ∃ w6, w6 = wc := ⟨_, rfl⟩
      rw [← hw6'] at hw6 ⊢
      clear hw6'
      clear y0 y1 y2 y3 y4 z8 f8
      have hc56 : Chg (fun k => k = l) w5 w6 := by rw [hw6]; exact Chg.setCell (S := fun k => k = l) (hcv.mono fun _ _ x => x.elim) (p := ⟨l, 8, none⟩) (fun _ => rfl) _
      have hSv := HS5.out.same hcv
      have hbl6 : Blk w6 l 148 #[cv, .string ⟨#[]⟩, .int .i64 0, .bool false, .string ⟨#[]⟩, .int .i64 0, .slice (some ⟨hb, 0, none⟩) 8 8, .int .i64 (N.length : Int), .int .i64 (size + ce)] := by
        rw [hw6]
        have := hSv.blk.set_ 8 (.int .i64 (size + ce))
        simpa using this
      have hbel : be ≠ l := HB5.out.ne_ HS5.out.blk (by decide)
      have hahl : ah ≠ l := HBA5.out.ne_ HS5.out.blk (by decide)
      have hb6 := HB5.out.chg hc56 (fun e => hbel e)
      have hba6 := HBA5.out.chg hc56 (fun e => hahl e)
      have hco6 : CoinsAt w6 cv coins := HS5.out.coin.chg hc56 (fun k h0 hk e => HS5.out.coff k h0 hk (.inl e))
      have hh6 : (N.length : Int) = (N.length : Int) := rfl
      have hhe := fun W (hW : Chg (fun _ => False) w6 W) => sk_height_g l cv coins N.length W (hco6.chg hW (by simp)) (by omega) (ky_chg hW (hbl6.cell 0)) (ky_chg hW (hbl6.cell 7))
      rw [HHT.out] at hhe
      have hmk := fun W => made_links ht (by omega) W
      have hq := fun q => quiet_drew' (hhe (w6.drewN q) (Chg.drewN (Chg.refl _ _) q))
      have y0 := hb6.cell 0
      have y1 := hb6.cell 1
      have y2 := hb6.cell 2
      have y3 := hb6.cell 3
      have y4 := hb6.cell 4
      simp at y0 y1 y2 y3 y4
      have HC56 := Lib.hid hc56
      have HBL6 := Lib.hid hbl6
      have HB6 := Lib.hid hb6
      have HBA6 := Lib.hid hba6
      have HCO6 := Lib.hid hco6
      have HHE := Lib.hid hhe
      have HW6 := Lib.hid hw6
      have HCV := Lib.hid hcv
      clear hc56 hbl6 hb6 hba6 hco6 hhe hw6 hcv
      clear hSv hh6
      go_wp2_with fail
      go_region_held3 (fun w' => w'.cell? ⟨be, 0, none⟩ = some (.string e.key) ∧ w'.cell? ⟨be, 1, none⟩ = some (.int .i64 e.seq) ∧ w'.cell? ⟨be, 2, none⟩ = some (.bool e.gone) ∧ w'.cell? ⟨be, 3, none⟩ = some (.string e.value) ∧ w'.cell? ⟨be, 4, none⟩ = some (.int .i64 e.till))
        (go_keep)
        (first | (go_at_call 180; refine (HHE.out _ cgS).mono ?_; rintro r w7 ⟨rfl, q7, hq7⟩; subst hq7))
      obtain ⟨nn, hnn⟩ : ∃ nn, w6.heap.size = nn := ⟨_, rfl⟩
      obtain ⟨w7, hw7⟩ : ∃ w7, w7 = ((w6.drewN (1 + q7)).alloc (.cells (Array.replicate ht (.pointer none)) 194)).alloc (.cells #[.string e.key, .int .i64 e.seq, .bool e.gone, .string e.value, .int .i64 e.till, .slice (some ⟨nn, 0, none⟩) ht ht] 146) := ⟨_, rfl⟩
      rw [hnn]
      rw [← hw7]
      have hc67 : Chg (fun _ => False) w6 w7 := by rw [hw7]; exact ((Chg.refl _ w6).drewN _).alloc _ |>.alloc _
      have hx7 : Blk w7 (nn + 1) 146 #[.string e.key, .int .i64 e.seq, .bool e.gone, .string e.value, .int .i64 e.till, .slice (some ⟨nn, 0, none⟩) ht ht] := by
        rw [hw7, ← hnn]
        exact Blk.new1 (w6.drewN (1 + q7)) _ _ _
      have hl7 : Blk w7 nn 194 (Array.replicate ht (.pointer none)) := by
        rw [hw7, ← hnn]
        exact (Blk.new (w6.drewN (1 + q7)) _ _).alloc _
      obtain ⟨x, hx⟩ : ∃ x : NodeV, x = ⟨e, ht, nn + 1, nn⟩ := ⟨_, rfl⟩
      have hc57 : Chg (fun k => k = l) w5 w7 := HC56.out.trans hc67 fun _ _ x => x.elim
      have hmid := Mid.start HS5.out HNN.out hc57 (fun _ x => x) (x := x) (by rw [hx]; exact hx7) (by rw [hx]; exact hl7)
      have hbl7 := HBL6.out.chg hc67 (by simp)
      have hba7 := HBA6.out.chg hc67 (by simp)
      have hnw : w.heap.size ≤ nn := by
        have h1 := HC05.out.size
        have h2 := HC56.out.size
        omega
      have hth : ∀ n ∈ T, n.h ≤ 8 := fun n hn => (HCN.out n (by rw [HNN.out]; simp [hn])).2.2
      have hndp := HS5.out.apart
      rw [HNN.out] at hndp
      have hoff : ∀ j ∈ hb :: (T ++ D).map (·.nb), j ≠ x.nb := fun j hj => by
        have hjl : j < w.heap.size := by
          refine H.out.lt j ?_
          rcases List.mem_cons.1 hj with rfl | hj
          · exact .inr (.inl rfl)
          · obtain ⟨n, hn, rfl⟩ := List.mem_map.1 hj
            exact .inr (.inr ⟨n, by rw [HNN.out]; exact hn, .inr rfl⟩)
        rw [hx]
        show j ≠ nn
        omega
      have xb : x.b = nn + 1 := by rw [hx]
      have xn : x.nb = nn := by rw [hx]
      have xh : x.h = ht := by rw [hx]
      have xe : x.e = e := by rw [hx]
      rw [← xb] at hx7
      rw [← D0.out, ← D1.out, ← D2.out, ← D3.out, ← D4.out, ← D5.out, ← D6.out, ← D7.out] at hba7
      have x5 := hx7.cell 5
      simp at x5
      rw [← xb]
      have hti : (0 : Int) ≤ (ht : Int) := by omega
      have HW7 := Lib.hid hw7
      have HMID := Lib.hid hmid
      have HBL7 := Lib.hid hbl7
      have HBA7 := Lib.hid hba7
      have HNW := Lib.hid hnw
      have HTH := Lib.hid hth
      have HNDP := Lib.hid hndp
      have HOFF := Lib.hid hoff
      have XB := Lib.hid xb
      have XN := Lib.hid xn
      have XH := Lib.hid xh
      have XE := Lib.hid xe
      have HC67 := Lib.hid hc67
      have HC57 := Lib.hid hc57
      have HN6 := Lib.hid hnn
      have HX := Lib.hid hx
      clear hw7 hmid hbl7 hba7 hnw hth hndp hoff xb xn xh xe hc67 hc57 hnn hx
      clear hl7 hmk hq y0 y1 y2 y3 y4 HHE HB6
      go_wp2_with fail
      clear x5
      go_loopw [59] (fun i wr => ∃ k : Nat, k ≤ ht ∧ i = .int .i64 (k : Int) ∧ Mid wr hb T D x k ∧ Chg (fun j => j = x.nb ∨ j = hb ∨ ∃ n ∈ T, j = n.nb) w7 wr) (fun i _ => ht - (intOf i).toNat)
      case atStart => exact ⟨0, by omega, rfl, HMID.out, Chg.refl _ _⟩
      case round =>
        obtain ⟨k, hk, rfl, hm, hcr⟩ := hrel
        have hfar : ∀ j t cs, t ≠ 194 → Blk w7 j t cs → Blk wr j t cs := fun j t cs ht' hb' => hb'.chg hcr fun e => by
          have lkx : ∃ cs, Blk w7 x.nb 194 cs := by obtain ⟨cs, h, _⟩ := HMID.out.lx; exact ⟨cs, h⟩
          have lkh : ∃ cs, Blk w7 hb 194 cs := by obtain ⟨cs, h, _⟩ := HMID.out.head; exact ⟨cs, h⟩
          rcases e with rfl | rfl | ⟨n, hn, rfl⟩
          · obtain ⟨cs, h⟩ := lkx; exact hb'.ne_ h ht' rfl
          · obtain ⟨cs, h⟩ := lkh; exact hb'.ne_ h ht' rfl
          · obtain ⟨A, R, e⟩ := List.append_of_mem hn
            obtain ⟨cs, h, _⟩ := HMID.out.lt A n R e
            exact hb'.ne_ h ht' rfl
        have hblr := hfar _ _ _ (by decide) HBL7.out
        have hbar := hfar _ _ _ (by decide) HBA7.out
        by_cases hlt : k < ht
        · have hnx : Blk wr x.b 146 _ := hm.nodes x (by simp)
          have x5 := hnx.cell 5
          simp at x5
          rw [XH.out] at x5
          have hkx : k < x.h := by rw [XH.out]; exact hlt
          obtain ⟨ab2, ao2, hx2, cs2, ea, xa, hk2, hx8, hlk, xl⟩ := hm.reads hblr (HLT.out k (by omega)) hkx (by omega) HTH.out
          obtain ⟨hne, hmA, hmB⟩ := hm.both (HLT.out k (by omega)) hkx (by omega) HTH.out HNDP.out HOFF.out
          have xr : wr.cell? ⟨ah, k, none⟩ = some (atp l (c k)) := (hbar.cell k).trans (arr8_get (fun f => atp l (c f)) (by omega))
          rw [ea] at xr
          obtain ⟨csx, hbx, hsx, hgx⟩ := hm.lx
          have xn0 : wr.cell? ⟨x.nb, k, none⟩ = some (.pointer none) := by
            rw [hbx.cell, hgx k hkx]
            simp [tptr]
          have fx := hbx.frozen k
          have fl := hlk.frozen k
          obtain ⟨pv, hpv⟩ := tptr_form (nextF D k)
          rw [hpv] at xl hmA hmB
          rw [show tptr (some x) = Value.pointer (some ⟨x.b, 0, none⟩) from rfl] at hmA hmB
          have lkt : ∀ j, j = lkb hb (c k) → j = hb ∨ ∃ n ∈ T, j = n.nb := fun j hj => by
            cases hck : c k with
            | none => rw [hck] at hj; exact .inl hj
            | some n =>
              rw [hck] at hj
              obtain ⟨A', R', e, _⟩ := (last_link (D := D) hkx (by have := HLT.out k (by omega); rw [hck] at this; exact this)).1 n rfl
              exact .inr ⟨n, by rw [e]; simp, hj⟩
          obtain ⟨lk, hlke⟩ : ∃ lk, lkb hb (c k) = lk := ⟨_, rfl⟩
          rw [hlke] at xl hmA hmB hne lkt xa fl
          have hlkt := lkt lk rfl
          have hq0 : (0 : Int) ≤ (k : Int) := by omega
          have hq2 : (k : Int) < (ht : Int) := by omega
          have hq3 : (k : Int) < 8 := by omega
          have hq4 : (k : Int) < (hx2 : Int) := by omega
          have hi := IntWalk.i64_in ((k : Int) + 1) (by omega)
          have hne2 : x.nb ≠ lk := fun e => hne e.symm
          have HMA := Lib.hid hmA
          have HMB := Lib.hid hmB
          have HM := Lib.hid hm
          have HCR := Lib.hid hcr
          have HLKT := Lib.hid hlkt
          clear hmA hmB hm hcr hlkt
          clear hfar hblr hbar hnx hlk hbx hgx ea lkt hlke hpv hsx hkx
          generalize x.nb = xnb at *
          generalize x.b = xbb at *
          go_wp2_with fail
          go_region
          go_wp2_with fail
          go_roundw
          case rel => exact ⟨k + 1, by omega, by go_num, HMA.out.same (Chg.drew (Chg.refl _ _)), (Chg.setCell (Chg.setCell HCR.out (p := ⟨xnb, k, none⟩) (fun _ => .inl rfl) _) (p := ⟨lk, k, none⟩) (fun _ => .inr HLKT.out) _).drew⟩
          case measure => simp [intOf]; omega
        · obtain rfl : k = ht := by omega
          have y7 := hblr.cell 7
          simp at y7
          have f7 := hblr.frozen 7
          have hi7 := IntWalk.i64_in ((N.length : Int) + 1) (by omega)
          have hpost := put_post H.out HNN.out HT.out HD.out HN.out hlen HGD2.out hfit XE.out (by rw [XH.out, HHT.out]) (by rw [XB.out]; have := HNW.out; omega) (by rw [XN.out]; exact HNW.out) HC05.out HC57.out hcr (by rw [XH.out]; exact hm) (by rw [XH.out, HCE.out]; exact hblr)
          have HPOST := Lib.hid hpost
          clear hpost
          clear hfar hbar hblr hm hcr hx7
          go_wp2_with fail
          go_ret
          exact HPOST.out
end Go.Proofs.YtljabmkmngbhkaaGreatDoor
