/-
  The program's manifest: Start, the walk.
-/
import Derived.Test.YtljabmkmngbhkaaGreatDoorZMg37
import Derived.Test.YtljabmkmngbhkaaGreatDoorZMg13
import Derived.Deep.DeepCutAuto
namespace Go.Proofs.YtljabmkmngbhkaaGreatDoor
open Go.RowKit
set_option linter.unusedVariables false
set_option linter.unusedSimpArgs false

theorem partsV_len (S : VerV) (hn : (flat S).length ≤ 900000) : (partsV S).length ≤ 1000000 := by
  unfold partsV
  rw [List.length_map]
  have := chunk_len ((flat S).length + 1) (flat S)
  omega
theorem kg_own {w w' : World} {v7 : Value} {b i : Nat} {v : Value} (hc : Chg (fun k => v7.ownBlock = some k) w w') (hb : v7.ownBlock ≠ some b) (h : w.cell? ⟨b, i, none⟩ = some v) : w'.cell? ⟨b, i, none⟩ = some v := (hc.cell (World.block_lt_of_cell? w _ h) hb).trans h
/-- The list of calls, so far: the closures lie in blocks that the walk made. -/
def Made (w0 w : World) (bd bn bs d : Nat) (nm s : ByteArray) : Prop :=
  Blk w bd 36 #[.pointer (some ⟨d, 0, none⟩)] ∧ Blk w bn 9 #[.string nm] ∧ Blk w bs 9 #[.string s] ∧ w0.heap.size ≤ bd ∧ w0.heap.size ≤ bn ∧ w0.heap.size ≤ bs
theorem Made.same {w0 w w' : World} {bd bn bs d : Nat} {nm s : ByteArray} (h : Made w0 w bd bn bs d nm s) (hc : Chg (fun _ => False) w w') : Made w0 w' bd bn bs d nm s :=
  ⟨h.1.chg hc (by simp), h.2.1.chg hc (by simp), h.2.2.1.chg hc (by simp), h.2.2.2⟩
theorem toldB_small (nm : ByteArray) (h : nm.size ≤ 1000) : (toldB nm).size ≤ 140737488355328 := by
  have e : (toldB nm).size = (fraB nm.data.toList).length := by unfold toldB; simp [ByteArray.size]
  rw [e]
  have e2 : nm.data.toList.length = nm.size := Array.length_toList
  rw [fraB, List.length_append, show (fraHead nm.data.toList.length (crcSum nm.data.toList)).length = 8 from rfl]
  omega
/-- The calls that Start makes of a disk. -/
def startPs (has : Bool) (nm s t : ByteArray) (d gd bd bn bs cd cn cs : Nat) : List CallV :=
  ([createC nm s bd bn bs, syncC d] ++ if has then [rmC gd] else []) ++ [createC nextB t cd cn cs, rnC gd, syncC d]
theorem startPs_len (has : Bool) (nm s t : ByteArray) (d gd bd bn bs cd cn cs : Nat) : (startPs has nm s t d gd bd bn bs cd cn cs).length ≤ 6 := by
  cases has <;> simp [startPs]
theorem seqC_app (a b : List CallV) (D : DiskV) : seqC (a ++ b) D = andV (seqC a D) (seqC b) := by
  induction a generalizing D with
  | nil => rfl
  | cons p a ih =>
    show andV (p.2 D) (seqC (a ++ b)) = andV (andV (p.2 D) (seqC a)) (seqC b)
    by_cases h : (p.2 D).1 = 0
    · rw [andV_yes h, andV_yes h, ih]
    · rw [andV_no h, andV_no h, andV_no h]
theorem startPs_gives (n : Int) (S : VerV) (D : DiskV) {nm s : ByteArray} (hf : framedV n (partsV S) = (nm, s, 0)) (d gd bd bn bs cd cn cs : Nat) :
    seqC (startPs (hasTx (namesL D) nextB) nm s (toldB nm) d gd bd bn bs cd cn cs) D = startM D n S := by
  unfold startM
  rw [hf, if_neg (by simp)]
  unfold startPs
  have e1 : ∀ D', seqC [createC nextB (toldB nm) cd cn cs, rnC gd, syncC d] D' = andV (createM D' nextB (toldB nm)) fun D4 => andV (renameD D4 nextB curB) syncDirD := fun D' => by
    show andV (createM D' nextB (toldB nm)) (fun D4 => andV (renameD D4 nextB curB) (seqC [syncC d])) = _
    congr 1
    funext D4
    congr 1
    exact seq_one _
  cases hh : hasTx (namesL D) nextB
  · simp only [Bool.false_eq_true, if_false, List.append_nil]
    rw [seqC_app]
    show andV (andV (createM D nm s) (seqC [syncC d])) _ = _
    have e2 : seqC [syncC d] = syncDirD := seq_one _
    rw [e2]
    by_cases h : (createM D nm s).1 = 0
    · rw [andV_yes h, andV_yes h]
      by_cases h2 : (syncDirD (createM D nm s).2).1 = 0
      · rw [andV_yes h2, andV_yes h2, andV_yes rfl, e1]
      · rw [andV_no h2, andV_no h2]
    · rw [andV_no h, andV_no h, andV_no h]
  · simp only [if_true]
    rw [seqC_app, seqC_app]
    have e3 : seqC [createC nm s bd bn bs, syncC d] D = andV (createM D nm s) syncDirD := by
      show andV (createM D nm s) (seqC [syncC d]) = _
      rw [show seqC [syncC d] = syncDirD from seq_one _]
    have e4 : seqC [rmC gd] = fun D2 => removeD D2 nextB := seq_one _
    rw [e3, e4]
    by_cases h : (createM D nm s).1 = 0
    · rw [andV_yes h, andV_yes h]
      by_cases h2 : (syncDirD (createM D nm s).2).1 = 0
      · rw [andV_yes h2, andV_yes h2]
        by_cases h3 : (removeD (syncDirD (createM D nm s).2).2 nextB).1 = 0
        · rw [andV_yes h3, andV_yes h3, e1]
        · rw [andV_no h3, andV_no h3]
      · rw [andV_no h2, andV_no h2, andV_no h2]
    · rw [andV_no h, andV_no h, andV_no h, andV_no h]
theorem start_seq (has : Bool) (nm s t : ByteArray) (d gd bd bn bs cd cn cs : Nat) (hnm : nm.size ≤ maxLen) (hs : s.size ≤ 140737488355328) (ht : t.size ≤ 140737488355328) (D : DiskV) (m : Nat) (hm : m ≤ 9000) (hD : PSm m D) (Y : Nat → Prop) (w0 w W : World) (h : DY w0 w d D Y) (hW : Chg (fun _ => False) w W)
    (hg : Blk W gd 36 #[.pointer (some ⟨d, 0, none⟩)]) (hgw : w.heap.size ≤ gd) (hm1 : Made w W bd bn bs d nm s) (hm2 : Made w W cd cn cs d nextB t) (v : Value) (hv : Lst callC W v (vals (startPs has nm s t d gd bd bn bs cd cn cs))) (hvo : ∀ k, v.ownBlock = some k → w.heap.size ≤ k) :
    Calls Tryz.prog 256 #[v] W (fun e w' => YPost w0 w d Y (seqC (startPs has nm s t d gd bd bn bs cd cn cs) D) e w' ∧ w'.cell? ⟨gd, 0, none⟩ = some (.pointer (some ⟨d, 0, none⟩))) := by
  have hYg := h.grow hW
  have hl := startPs_len has nm s t d gd bd bn bs cd cn cs
  obtain ⟨g1, g2, g3, j1, j2, j3⟩ := hm1
  obtain ⟨f1, f2, f3, k1, k2, k3⟩ := hm2
  have new : ∀ {b : Nat} {t : TypeId} {cs : Array Value}, Blk W b t cs → w.heap.size ≤ b → (Y b ∨ (w.heap.size ≤ b ∧ b < W.heap.size)) := fun hb hl => .inr ⟨hl, hb.lt⟩
  have asC : ∀ {a : ByteArray} {x : ByteArray} {b1 b2 b3 : Nat}, a.size ≤ maxLen → x.size ≤ 140737488355328 → Blk W b1 36 #[.pointer (some ⟨d, 0, none⟩)] → Blk W b2 9 #[.string a] → Blk W b3 9 #[.string x] → w.heap.size ≤ b1 → w.heap.size ≤ b2 → w.heap.size ≤ b3 →
      Asks 9970 w0 W d (fun k => Y k ∨ (w.heap.size ≤ k ∧ k < W.heap.size)) (createC a x b1 b2 b3) := fun ha hx q1 q2 q3 l1 l2 l3 =>
    ⟨enters _ _ (by kernel_rfl), fun k D' hk => (psm_make _ _ hk).by_ (by omega), fun k D' W' hk hps hd hkp =>
      ma_create_f _ _ ha hx d _ _ _ _ w0 k D' hps (by omega) W' hd (q1.kept hkp (new q1 l1)) (q2.kept hkp (new q2 l2)) (q3.kept hkp (new q3 l3)) (new q1 l1) (new q2 l2) (new q3 l3)⟩
  have asS : Asks 9970 w0 W d (fun k => Y k ∨ (w.heap.size ≤ k ∧ k < W.heap.size)) (syncC d) :=
    ⟨enters _ _ (by kernel_rfl), fun k D' hk => (p_bsm_syncdir hk).by_ (by omega), fun k D' W' hk hps hd hkp => y_syncdir w0 d D' _ (hps.ds (by omega)) W' hd⟩
  have asR : Asks 9970 w0 W d (fun k => Y k ∨ (w.heap.size ≤ k ∧ k < W.heap.size)) (rmC gd) :=
    ⟨enters _ _ (by kernel_rfl), fun k D' hk => (p_bsm_remove _ hk).by_ (by omega), fun k D' W' hk hps hd hkp => ma_start_rm d gd D' _ w0 W' hd (hg.kept hkp (new hg hgw)) (hps.ds (by omega))⟩
  have asN : Asks 9970 w0 W d (fun k => Y k ∨ (w.heap.size ≤ k ∧ k < W.heap.size)) (rnC gd) :=
    ⟨enters _ _ (by kernel_rfl), fun k D' hk => (psm_rename _ _ hk).by_ (by omega), fun k D' W' hk hps hd hkp => ma_start_rn d gd D' _ w0 W' hd (hg.kept hkp (new hg hgw)) (hps.ds (by omega))⟩
  refine (ma_seq 9970 (startPs has nm s t d gd bd bn bs cd cn cs) v _ w0 W d D m (by omega) (by omega) hD hYg hv (fun k hk => .inr ⟨hvo k hk, hv.lt hk⟩) (fun p hp => ?_)).mono fun e w' hq => ⟨y_back (fun k hk => .inl hk) (Kept.of_chg hW) hq, by have := (hg.kept hq.2.2 (new hg hgw)).cell 0; simpa using this⟩
  have hp' : p = createC nm s bd bn bs ∨ p = syncC d ∨ p = rmC gd ∨ p = createC nextB t cd cn cs ∨ p = rnC gd := by
    unfold startPs at hp
    cases has <;> simp at hp <;> (rcases hp with rfl | rfl | rfl | rfl | rfl | rfl <;> simp) <;> done
  rcases hp' with rfl | rfl | rfl | rfl | rfl
  · exact asC hnm hs g1 g2 g3 j1 j2 j3
  · exact asS
  · exact asR
  · exact asC (by decide) ht f1 f2 f3 k1 k2 k3
  · exact asN
set_option maxRecDepth 100000 in
set_option maxHeartbeats 4000000 in
theorem ma_start (n : Int) (h0 : -9223372036854775808 ≤ n) (h1 : n ≤ 9223372036854775807) (l0 l1 l2 l3 : Value) (S : VerV) (d : Nat) (D : DiskV) (m : Nat) (hm : m ≤ 9000) (hD : PSm m D) (Y : Nat → Prop) (w0 w : World) (h : DY w0 w d D Y) (ht : Tab w0)
    (hv : VerAt w (Lv l0 l1 l2 l3) S.lv) (hn : (flat S).length ≤ 900000) (hfit : EdFit (wholeE S)) :
    Calls Tryz.prog 157 #[.pointer (some ⟨d, 0, none⟩), .int .i64 n, .agg #[l0, l1, l2, l3, .int .i64 S.log, .int .i64 S.next, .int .i64 S.seq]] w (YPost w0 w d Y (startM D n S)) := by
  obtain ⟨w1, hw1⟩ : ∃ w1, w1 = (w.alloc (.cells #[.pointer (some ⟨d, 0, none⟩)] 36)).alloc (.cells #[l0, l1, l2, l3, .int .i64 S.log, .int .i64 S.next, .int .i64 S.seq] 62) := ⟨_, rfl⟩
  have hc1 : Chg (fun _ => False) w w1 := by rw [hw1]; exact ((Chg.refl _ _).alloc _).alloc _
  have hb0 : Blk w1 w.heap.size 36 #[.pointer (some ⟨d, 0, none⟩)] := by rw [hw1]; exact (Blk.new w _ _).alloc _
  have hb1 : Blk w1 (w.heap.size + 1) 62 #[l0, l1, l2, l3, .int .i64 S.log, .int .i64 S.next, .int .i64 S.seq] := by rw [hw1]; exact Blk.new1 w _ _ _
  have y0 := hb1.cell 0
  have y1 := hb1.cell 1
  have y2 := hb1.cell 2
  have y3 := hb1.cell 3
  have y4 := hb1.cell 4
  have y5 := hb1.cell 5
  have y6 := hb1.cell 6
  simp at y0 y1 y2 y3 y4 y5 y6
  have hpa := ma_parts l0 l1 l2 l3 S w1 (hv.same hc1) (by omega) hfit
  have hfr := fun v X W (hW : Chg (fun _ => False) w1 W) hL hE hl => ma_framed n h0 h1 X v W (((ht.chg h.frame).chg hc1).chg hW) hL hE hl
  obtain ⟨z1, z2⟩ := framedV_small n (partsV S) (partsV_len S hn)
  have z0 : (framedV n (partsV S)).1.size ≤ 64 := by
    have := fileB_size n
    unfold framedV
    split
    · decide
    split
    · exact this
    · decide
  obtain ⟨r, hr⟩ : ∃ r, framedV n (partsV S) = r := ⟨_, rfl⟩
  obtain ⟨out, hout⟩ : ∃ out, startM D n S = out := ⟨_, rfl⟩
  have hst := hout
  unfold startM at hst
  have hpl := partsV_len S hn
  rw [hr] at z0 z1 z2 hst
  rw [hout]
  have HST := Lib.hid hst
  have HPA := Lib.hid hpa
  have HFR := Lib.hid hfr
  have HR := Lib.hid hr
  have HW1 := Lib.hid hw1
  have HC1 := Lib.hid hc1
  have HB0 := Lib.hid hb0
  have HH := Lib.hid h
  have HD := Lib.hid hD
  have HPL := Lib.hid hpl
  have HT := Lib.hid ht
  clear hst hpa hfr hr hw1 hc1 hb0 hb1 h hD hpl hout hv hfit ht
  obtain ⟨nm, s, bad⟩ := r
  simp only at HST z0 z1 z2
  go_enter Tryz.func157, Tryz.ntmps157
  go_upto_region 1 with fail
  rw [← HW1.out]
  go_wp2_with fail
  refine HPA.out.mono ?_
  rintro e w2 ⟨v, X, rfl, hX, hE, hXE, hvk, hc2⟩
  have hfr := HFR.out v X w2 hc2 hX hE (by have := HPL.out; rw [← hXE, List.length_map] at this; exact this)
  rw [hXE, HR.out] at hfr
  have HFR2 := Lib.hid hfr
  have HC2 := Lib.hid (HC1.out.then hc2)
  have hB2 := HB0.out.chg hc2 (by simp)
  have HB2 := Lib.hid hB2
  clear hfr hX hE hXE hvk hc2 hB2
  go_wp2_with fail
  refine HFR2.out.mono ?_
  rintro e w3 ⟨rfl, hc3⟩
  simp only
  have HC3 := Lib.hid (HC2.out.then hc3)
  have hB3 := HB2.out.chg hc3 (by simp)
  by_cases hbad : bad = 0
  · subst hbad
    have hst := HST.out
    rw [if_neg (by simp)] at hst
    have HST2 := Lib.hid hst
    have hfp := fra_put nm w3 (by omega)
    have HFP := Lib.hid hfp
    have HB3 := Lib.hid hB3
    clear hst hfp hB3 hc3
    go_wp2_with fail
    refine HFP.out.mono ?_
    rintro e w4 ⟨⟨t, htt, rfl⟩, hc4⟩
    have hB4 := HB3.out.chg hc4 (by simp)
    have x0 := hB4.cell 0
    simp at x0
    have hcr := fun W => ma_create nm s d W
    have HCR := Lib.hid hcr
    have HC4 := Lib.hid (HC3.out.then hc4)
    have HB4 := Lib.hid hB4
    have hlt4 : w.heap.size < w4.heap.size := hB4.lt
    have HTT := Lib.hid htt
    clear hB4 hcr hc4 htt
    go_upto_region 5 with fail
    go_cut [12] (fun c wx => ∃ g bd bn bs, c = .slice (some ⟨g, 0, none⟩) 2 2 ∧ Blk wx g 366 #[.func (.func 309) #[] #[.pointer (some ⟨bd, 0, none⟩), .pointer (some ⟨bn, 0, none⟩), .pointer (some ⟨bs, 0, none⟩)], .func (.func 125) #[.pointer (some ⟨d, 0, none⟩)] #[]] ∧ Made w4 wx bd bn bs d nm s ∧ w4.heap.size ≤ g ∧ Chg (fun _ => False) w4 wx)
    case first =>
      go_region_held (fun w' => w'.cell? ⟨w.heap.size, 0, none⟩ = some (.pointer (some ⟨d, 0, none⟩)))
        ((go_split_ands; (try dsimp only); (repeat' with_reducible apply And.intro) <;> (repeat (first | with_reducible assumption | with_reducible refine kg_drew ?_ | with_reducible refine kg_alloc _ ?_ | with_reducible refine kg_chg hc5 ?_))))
        (first | (go_at_call 254; refine (HCR.out _).mono ?_; rintro e w5 ⟨bd, bn, bs, rfl, g1, g2, g3, k1, k2, k3, hc5⟩))
      all_goals
        have hcw5 : Chg (fun _ => False) w4 w5 := by first | exact hc5 | exact Chg.then ((Chg.refl _ _).drew) hc5
        go_wp2_with fail
        go_meet
        exact ⟨_, bd, bn, bs, rfl, bnN, Made.same (w := w5) ⟨g1, g2, g3, by simpa using k1, by simpa using k2, by simpa using k3⟩ cgR, hcw5.size, Chg.then hcw5 cgR⟩
    case rest =>
    obtain ⟨g, bd, bn, bs, rfl, hg, hmd, hgs, hc5⟩ := hcut
    have hd5 := HH.out.same (HC4.out.then hc5)
    have hnl := HD.out.n
    have hll : (namesL D).length = D.names.length := by simp [namesL]
    have hlist := y_list w0 d D Y (by omega) HD.out.an wc hd5
    have hB5 := HB4.out.chg hc5 (by simp)
    have x0 := hB5.cell 0
    simp at x0
    have HLI := Lib.hid hlist
    have HB5 := Lib.hid hB5
    have HG5 := Lib.hid hg
    have HMD := Lib.hid hmd
    have HC5 := Lib.hid (HC4.out.then hc5)
    have hgw : w.heap.size ≤ g := Nat.le_trans HC4.out.size hgs
    clear hlist hB5 hg hmd hd5 hc5 HCR HB4 HB3 HB2 HFR2 HFP
    go_upto_region 6 with fail
    go_cut [38] (fun b wx => b = .bool (hasTx (namesL D) nextB) ∧ Chg (fun _ => False) wc wx)
    case first =>
      go_wp2_with fail
      refine HLI.out.mono ?_
      rintro e w6 ⟨lv, rfl, hL, _, hc6⟩
      have hhas := has_str (namesL D) lv nextB w6 hL (by omega)
      have HHAS := Lib.hid hhas
      have HC6 := Lib.hid hc6
      clear hhas hL hc6
      go_wp2_with fail
      refine HHAS.out.mono ?_
      rintro e w7 ⟨rfl, rfl⟩
      go_wp2_with fail
      go_meet
      exact ⟨rfl, HC6.out⟩
    case rest =>
    obtain ⟨rfl, hc6⟩ := hcut
    rename_i wd
    have hB6 := HB5.out.chg hc6 (by simp)
    have hM6 := HMD.out.same hc6
    have hG6 := HG5.out.chg hc6 (by simp)
    have hL6 : Lst callC wc (.slice (some ⟨g, 0, none⟩) 2 2) (vals [createC nm s bd bn bs, syncC d]) := Lst.of_block callOk (l := vals [createC nm s bd bn bs, syncC d]) hG6 rfl (by show 2 ≤ 1000000; omega)
    have HC6 := Lib.hid (HC5.out.then hc6)
    have HB6 := Lib.hid hB6
    have HM6 := Lib.hid hM6
    have HL6 := Lib.hid hL6
    have HG6 := Lib.hid hG6
    clear hB6 hM6 hL6 hG6
    clear hc6 x0
    obtain ⟨has, hhas⟩ : ∃ has, hasTx (namesL D) nextB = has := ⟨_, rfl⟩
    rw [hhas]
    obtain ⟨w6, hw6⟩ : ∃ w6, w6 = wc := ⟨_, rfl⟩
    subst hw6
    have HHAS := Lib.hid hhas
    clear hhas
    go_upto_if 38 with fail
    go_cut [12] (fun c wx => Lst callC wx c (vals ([createC nm s bd bn bs, syncC d] ++ if has then [rmC w.heap.size] else [])) ∧ (∀ k, c.ownBlock = some k → w4.heap.size ≤ k) ∧ Chg (fun k => k = g) w6 wx)
    case first =>
      cases has
      case false =>
        go_wp2_with fail
        go_meet
        exact ⟨HL6.out, fun k hk => by simp [Value.ownBlock] at hk; omega, Chg.refl _ _⟩
      case true =>
        go_wp2_with ((refine wpList_lst_app callOk _ (by rfl) _ _ (by rfl) (vals [createC nm s bd bn bs, syncC d]) _ (rmC w.heap.size).1 (by rfl) (HL6.out.same cgR) _ (by rfl) (by show 2 ≤ 1000000000; omega) (by show Blk _ _ 366 _; exact Blk.new _ _ _) ?_); intro v' w9 hO9 hc9 hb9)
        go_wp2_with fail
        go_meet
        refine ⟨hO9, fun k hk => ?_, Chg.then (Chg.alloc (Chg.refl _ _) _) (hc9.mono fun k _ e => by simp [Value.ownBlock] at e; exact e.symm)⟩
        rcases hb9 k hk with e | e
        · simp [Value.ownBlock] at e; omega
        · have := HG6.out.lt; simp at e; omega
    case rest =>
    obtain ⟨hL7, hO7, hc7⟩ := hcut
    obtain ⟨v7, hv7⟩ : ∃ v7, v7 = u12 := ⟨_, rfl⟩
    subst hv7
    obtain ⟨w7, hw7⟩ : ∃ w7, w7 = wc := ⟨_, rfl⟩
    subst hw7
    have hltB := HB6.out.lt
    have hcw7 : Chg (fun _ => False) w w7 := HC6.out.trans hc7 fun k hk e => by omega
    have hB7 := HB6.out.chg hc7 (by omega)
    have hM7 : Made w w7 bd bn bs d nm s := by
      obtain ⟨m1, m2, m3, m4, m5, m6⟩ := HM6.out
      have ne : ∀ {b : Nat} {t : TypeId} {cs : Array Value}, Blk w6 b t cs → t ≠ 366 → b ≠ g := fun hb ht e => hb.ne_ (HG6.out) ht e
      exact ⟨m1.chg hc7 (ne m1 (by decide)), m2.chg hc7 (ne m2 (by decide)), m3.chg hc7 (ne m3 (by decide)), by omega, by omega, by omega⟩
    have hcr2 := fun W => ma_create nextB t d W
    unfold nextB at hcr2
    obtain ⟨L7, hL7e⟩ : ∃ L7, vals ([createC nm s bd bn bs, syncC d] ++ if has then [rmC w.heap.size] else []) = L7 := ⟨_, rfl⟩
    rw [hL7e] at hL7
    have hL7l : L7.length ≤ 1000000000 := by rw [← hL7e]; cases has <;> simp [vals]
    have hvd : v7.ownBlock ≠ some w.heap.size := fun e => by have := hO7 _ e; omega
    have hfin : ∀ W, Chg (fun k => v7.ownBlock = some k) w7 W → Chg (fun _ => False) w W := fun W hW => hcw7.trans hW fun k hk e => by have := hO7 k e; omega
    have hseq : ∀ w8 cd cn cs, Chg (fun _ => False) w7.drew w8 → Blk w8 cd 36 #[.pointer (some ⟨d, 0, none⟩)] → Blk w8 cn 9 #[.string nextB] → Blk w8 cs 9 #[.string t] → w7.drew.heap.size ≤ cd → w7.drew.heap.size ≤ cn → w7.drew.heap.size ≤ cs → ∀ o v' W,
        Lst callC W v' (L7 ++ vals [createC nextB t cd cn cs, rnC w.heap.size, syncC d]) → Chg (fun k => v7.ownBlock = some k) (w8.alloc o) W → (∀ k, v'.ownBlock = some k → v7.ownBlock = some k ∨ (w8.alloc o).heap.size ≤ k) → Calls Tryz.prog 256 #[v'] W (fun e w' => YPost w0 w d Y out e w' ∧ w'.cell? ⟨w.heap.size, 0, none⟩ = some (.pointer (some ⟨d, 0, none⟩))) := by
      intro w8 cd cn cs hc8 q1 q2 q3 k1 k2 k3 o v' W hO hcW hown
      have hc8' : Chg (fun k => v7.ownBlock = some k) w7 (w8.alloc o) := Chg.mono (((Chg.drew (Chg.refl _ w7)).then hc8).alloc o) fun _ _ e => e.elim
      have hW : Chg (fun k => v7.ownBlock = some k) w7 W := hc8'.then hcW
      have k1 : w7.heap.size ≤ cd := k1
      have k2 : w7.heap.size ≤ cn := k2
      have k3 : w7.heap.size ≤ cs := k3
      have hs8 := hc8'.size
      have old : ∀ k, v7.ownBlock = some k → k < w7.heap.size := fun k hk => hL7.lt hk
      have q1 := (q1.alloc o).chg hcW (fun e => by have := old _ e; omega)
      have q2 := (q2.alloc o).chg hcW (fun e => by have := old _ e; omega)
      have q3 := (q3.alloc o).chg hcW (fun e => by have := old _ e; omega)
      have hv : ∀ k, v'.ownBlock = some k → w.heap.size ≤ k := fun k hk => by
        rcases hown k hk with e | e
        · have := hO7 k e; omega
        · have := hcw7.size; omega
      have hs7 := hcw7.size
      have hps := startPs_gives n S D HR.out d w.heap.size bd bn bs cd cn cs
      rw [HHAS.out] at hps
      have hst2 : startM D n S = out := by
        have := HST2.out
        rw [← this]
        unfold startM
        rw [HR.out, if_neg (by simp)]
      have htt : t = toldB nm := ByteArray.ext (Array.ext' (by rw [HTT.out]; rfl))
      rw [hst2, ← htt] at hps
      rw [← hps]
      have hne : ∀ {b : Nat} {ty : TypeId} {cs : Array Value}, Blk w7 b ty cs → ty ≠ 366 → ¬ v7.ownBlock = some b := fun hb ht e => by
        obtain ⟨cs', hb'⟩ := hL7.typed e
        exact hb.ne_ hb' ht rfl
      refine start_seq has nm s t d w.heap.size bd bn bs cd cn cs (by unfold maxLen; omega) (by omega) (by rw [htt]; exact toldB_small nm (by omega)) D m hm HD.out Y w0 w W HH.out (hfin W hW) (hB7.chg hW hvd) (Nat.le_refl _)
        ⟨hM7.1.chg hW (hne hM7.1 (by decide)), hM7.2.1.chg hW (hne hM7.2.1 (by decide)), hM7.2.2.1.chg hW (hne hM7.2.2.1 (by decide)), hM7.2.2.2⟩ ⟨q1, q2, q3, by omega, by omega, by omega⟩ v' ?_ hv
      unfold startPs
      rw [show vals (([createC nm s bd bn bs, syncC d] ++ if has then [rmC w.heap.size] else []) ++ [createC nextB t cd cn cs, rnC w.heap.size, syncC d]) = vals ([createC nm s bd bn bs, syncC d] ++ if has then [rmC w.heap.size] else []) ++ vals [createC nextB t cd cn cs, rnC w.heap.size, syncC d] from List.map_append, hL7e]
      exact hO
    have HC7 := Lib.hid hcw7
    have x0 := hB7.cell 0
    simp at x0
    have HB7 := Lib.hid hB7
    have HM7 := Lib.hid hM7
    have HCR2 := Lib.hid hcr2
    have HL7 := Lib.hid hL7
    have HL7E := Lib.hid hL7e
    have HFIN := Lib.hid hfin
    have HSEQ := Lib.hid hseq
    have HO7 := Lib.hid hO7
    clear hB7 hM7 hcr2 hL7 hL7e hfin hseq hO7
    clear hc7 hcw7
    go_upto_region 8 with fail
    go_cut [6] (fun c wx => c = .int .i64 out.1 ∧ DY w0 wx d out.2 Y ∧ Kept Y w wx)
    case first =>
      go_region_held3 (fun w' => w'.cell? ⟨w.heap.size, 0, none⟩ = some (.pointer (some ⟨d, 0, none⟩)))
        ((go_split_ands; (try dsimp only); (repeat' with_reducible apply And.intro) <;> (repeat (first | with_reducible assumption | with_reducible refine kg_drew ?_ | with_reducible refine kg_alloc _ ?_ | with_reducible refine kg_chg hc8 ?_ | with_reducible refine kg_own hc9 hvd ?_))))
        (first
          | (go_at_call 254; refine (HCR2.out _).mono ?_; rintro e w8 ⟨cd, cn, cs, rfl, q1, q2, q3, k1, k2, k3, hc8⟩)
          | (go_at_call 256; ((with_reducible refine (HSEQ.out _ _ _ _ hc8 q1 q2 q3 k1 k2 k3 _ _ _ hO9 hc9 hb9).mono ?_)); rintro e w10 ⟨⟨rfl, h10, k10⟩, x10⟩)
          | (refine step_lst_apps callOk _ (by rfl) _ _ (by rfl) L7 (vals [createC nextB t cd cn cs, rnC w.heap.size, syncC d]) v7 (by rfl) (HL7.out.same (((Chg.drew (Chg.refl _ w7)).then hc8).alloc _)) _ (by rfl) hL7l (by show 3 ≤ 1000; omega) (Blk.new _ _ _) ?_; intro v' w9 hO9 hc9 hb9))
      all_goals
        go_wp2_with fail
        go_meet
        exact ⟨rfl, h10, k10⟩
    case rest =>
    obtain ⟨rfl, h7, k7⟩ := hcut
    go_wp2_with fail
    go_ret
    exact ⟨rfl, h7, k7⟩
  · have hb1 : (bad != 0) = true := by simp [hbad]
    have hb2 : (bad == 0) = false := by simp [hbad]
    have hst := HST.out
    rw [if_pos hbad] at hst
    have HST2 := Lib.hid hst
    clear hc3 hB3 hst
    go_wp2_with fail
    go_ret
    rw [← HST2.out]
    exact ⟨rfl, HH.out.same HC3.out, Kept.of_chg HC3.out⟩
end Go.Proofs.YtljabmkmngbhkaaGreatDoor
