/-
  Items with their numbers: the walk of Number. What items cost.
  The bytes of good items: the walk of Put.
-/
import Derived.Test.YtljabmkmngbhkaaGreatDoorZMg20
import Derived.Deep.DeepCutAuto
namespace Go.Proofs.YtljabmkmngbhkaaGreatDoor
open Go.RowKit
set_option linter.unusedVariables false
set_option linter.unusedSimpArgs false

theorem numE_snoc (seq : Int) (A : List EntryV) (x : EntryV) : numE seq (A ++ [x]) = numE seq A ++ [{ x with seq := seq + (A.length : Int) }] := by
  unfold numE
  rw [List.mapIdx_append]
  simp
theorem numE_len (seq : Int) (A : List EntryV) : (numE seq A).length = A.length := by simp [numE]
def NumbrPost (w : World) (seq : Int) (l : List EntryV) (r : Ending) (w' : World) : Prop := ∃ v, r = .returned v ∧ Lst entC w' v (numE seq l) ∧ (∀ k, v.ownBlock = some k → w.heap.size ≤ k) ∧ Chg (fun _ => False) w w'
set_option maxRecDepth 100000 in
set_option maxHeartbeats 4000000 in
theorem ba_number (v : Value) (l : List EntryV) (seq : Int) (h0 : 0 ≤ seq) (h1 : seq ≤ 9000000000000000000) (hl : l.length ≤ 1000000) (w : World) (h : Lst entC w v l) : Calls Tryz.prog 94 #[v, .int .i64 seq] w (NumbrPost w seq l) := by
  obtain ⟨a, cap, rfl, h1', h2, h3⟩ := ent_form h
  have H3 := Lib.hid h3
  have H := Lib.hid h
  clear h3 h
  go_enter Tryz.func94, Tryz.ntmps94
  go_wp2_with fail
  go_loopw [5, 10] (fun o i wr => ∃ A R, l = A ++ R ∧ i = .int .i64 (A.length : Int) ∧ Lst entC wr o (numE seq A) ∧ (∀ k, o.ownBlock = some k → w.heap.size ≤ k) ∧ Chg (fun _ => False) w wr) (fun _ i _ => l.length - (intOf i).toNat)
  case atStart => exact ⟨[], l, rfl, rfl, Lst.nil _ _, by simp [Value.ownBlock], Chg.refl _ _⟩
  case round =>
    obtain ⟨A, R, hl', rfl, hO, hown, hcr⟩ := hrel
    have hAl : A.length ≤ l.length := by rw [hl']; simp
    obtain ⟨oa, oc, rfl, _, _, _⟩ := ent_form hO
    cases R with
    | nil =>
      have hlt : ¬ ((A.length : Int) < (l.length : Int)) := by rw [hl']; simp
      have hE : l = A := by rw [hl']; simp
      have hpost : NumbrPost w seq l (.returned (.slice oa (numE seq A).length oc)) wr := ⟨_, rfl, by rw [hE]; exact hO, hown, hcr⟩
      have HPOST := Lib.hid hpost
      clear hpost
      clear hl' hE hO hown hcr
      go_wp2_with fail
      go_ret
      exact HPOST.out
    | cons x R =>
      have hlt : (A.length : Int) < (l.length : Int) := by rw [hl']; simp; omega
      obtain ⟨b, rfl, hb, _, z0, z1, z2, z3, z4⟩ := H3.out A x R hl'
      have y0 := ky_chg hcr z0
      have y1 := ky_chg hcr z1
      have y2 := ky_chg hcr z2
      have y3 := ky_chg hcr z3
      have y4 := ky_chg hcr z4
      have hl2 : l = (A ++ [x]) ++ R := by rw [hl']; simp
      have hap := numE_snoc seq A x
      have hnl := numE_len seq A
      have hge : (0 : Int) ≤ (A.length : Int) := by omega
      have hadd := IntWalk.i64_in (seq + (A.length : Int)) (by omega)
      obtain ⟨bx, hbx⟩ : ∃ bx, wr.heap.size = bx := ⟨_, rfl⟩
      obtain ⟨W, hW⟩ : ∃ W, W = (wr.alloc (.cells #[.string x.key, .int .i64 (seq + (A.length : Int)), .bool x.gone, .string x.value, .int .i64 x.till] 41)).alloc (.cells #[.string x.key, .int .i64 (seq + (A.length : Int)), .bool x.gone, .string x.value, .int .i64 x.till] 41) := ⟨_, rfl⟩
      have hcW : Chg (fun _ => False) wr W := by rw [hW]; exact ((Chg.refl _ _).alloc _).alloc _
      have hbW : Blk W (bx + 1) 41 (entC.g { x with seq := seq + (A.length : Int) }).toArray := by rw [hW, ← hbx]; exact Blk.new1 _ _ _ _
      have hOW := hO.same hcW
      have HL2 := Lib.hid hl2
      have HCR := Lib.hid hcr
      have HAP := Lib.hid hap
      have HO := Lib.hid hO
      have HOWN := Lib.hid hown
      have HW := Lib.hid hW
      have HCW := Lib.hid hcW
      have HBW := Lib.hid hbW
      have HOW := Lib.hid hOW
      have HBX := Lib.hid hbx
      have HNL := Lib.hid hnl
      clear hl2 hcr hap hO hown hW hcW hbW hOW hbx hnl
      clear hl' hb z0 z1 z2 z3 z4
      have hnl2 : (numE seq A).length ≤ 1000000000 := by have := HNL.out; omega
      go_wp2_with (at_builtin; rw [HBX.out, ← HW.out]; refine wpList_lst_app entOk _ (by rfl) _ _ (by rfl) (numE seq A) (.slice oa (numE seq A).length oc) { x with seq := seq + (A.length : Int) } (by rfl) HOW.out (bx + 1) (by rfl) hnl2 HBW.out ?_)
      intro v' w' hO' hc' hown'
      rw [← HAP.out] at hO'
      have hfin : (∀ k, v'.ownBlock = some k → w.heap.size ≤ k) ∧ Chg (fun _ => False) w w' := by
        have h1 := HCR.out.then HCW.out
        have h2 := h1.size
        refine ⟨fun k hk => ?_, h1.trans hc' fun k hk e => by have := HOWN.out k e; omega⟩
        rcases hown' k hk with e | e
        · exact HOWN.out k e
        · omega
      have HO' := Lib.hid hO'
      have HFIN := Lib.hid hfin
      clear hO' hfin
      clear hc' hown' y0 y1 y2 y3 y4
      go_wp2_with fail
      go_roundw
      case rel => exact ⟨A ++ [x], R, HL2.out, by simp, HO'.out, HFIN.out.1, HFIN.out.2⟩
      case measure => simp [intOf]; omega
def costI (l : List EntryV) : Int := 104 * (l.length : Int) + (sizeE l : Int)
set_option maxRecDepth 100000 in
set_option maxHeartbeats 4000000 in
theorem st_cost (v : Value) (l : List EntryV) (hs : sizeE l ≤ 1000000000000) (hl : l.length ≤ 1000000) (w : World) (h : Lst entC w v l) : Calls Tryz.prog 32 #[v] w fun r w' => r = .returned (.int .i64 (costI l)) ∧ Chg (fun _ => False) w w' := by
  have hz := ba_size v l hs w h
  obtain ⟨a, cap, rfl, h1, h2, _⟩ := ent_form h
  unfold costI
  have HZ := Lib.hid hz
  clear hz
  clear h
  go_enter Tryz.func32, Tryz.ntmps32
  go_wp2_with fail
  refine HZ.out.mono ?_
  rintro r w1 ⟨rfl, hc⟩
  have HC := Lib.hid hc
  clear hc
  go_wp2_with fail
  go_ret
  exact ⟨by first | rfl | simp, HC.out⟩
end Go.Proofs.YtljabmkmngbhkaaGreatDoor
namespace Go.Proofs.YtljabmkmngbhkaaGreatDoor
open Go.RowKit
set_option linter.unusedVariables false
set_option linter.unusedSimpArgs false

theorem putI_eq (e : EntryV) : putI e = putT e.key ++ if e.gone then putV 0 else putV (e.till + 1) ++ putT e.value := by
  unfold putI putT
  rfl
theorem putI_len {e : EntryV} (h : goodI e = 0 ∧ EntFit e) : (putI e).length ≤ 606 := by
  obtain ⟨k1, k2, k3, k4, k5⟩ := goodI_zero h.1 h.2.t.2
  have p1 := putV_len (n := (e.key.size : Int)) (by omega) (by omega)
  have p2 := putV_len (n := (e.value.size : Int)) (by omega) (by omega)
  have p3 := putV_len (n := 0) (by omega) (by omega)
  have p4 := putV_len (n := e.till + 1) (by omega) (by omega)
  rw [putI_eq]
  unfold putT
  have b1 := bs_len e.key
  have b2 := bs_len e.value
  split <;> simp only [List.length_append] <;> omega
theorem putIs_pre (l : List EntryV) (h : ∀ e ∈ l, goodI e = 0 ∧ EntFit e) : (l.flatMap putI).length ≤ 606 * l.length := by
  induction l with
  | nil => simp
  | cons e r ih =>
    have := putI_len (h e (by simp))
    have := ih fun x hx => h x (by simp [hx])
    rw [List.flatMap_cons, List.length_append, List.length_cons]
    omega
set_option maxRecDepth 100000 in
set_option maxHeartbeats 4000000 in
theorem ba_put (v : Value) (l : List EntryV) (hl : l.length ≤ 64) (hg : ∀ e ∈ l, goodI e = 0 ∧ EntFit e) (w : World) (h : Lst entC w v l) : Calls Tryz.prog 31 #[v] w fun r w' => r = .returned (.tuple #[.string ⟨(putIs l).toArray⟩, .int .i64 0]) ∧ Chg (fun _ => False) w w' := by
  obtain ⟨a, cap, rfl, h1, h2, h3⟩ := ent_form h
  obtain ⟨g, hgs⟩ : ∃ g, w.heap.size = g := ⟨_, rfl⟩
  obtain ⟨w1, hw1⟩ : ∃ w1, w1 = w.alloc (.cells #[.pointer none, .slice none 0 0] 171) := ⟨_, rfl⟩
  have hc1 : Chg (fun _ => False) w w1 := by rw [hw1]; exact (Chg.refl _ _).alloc _
  have hbl1 : BldAt g g [] w1 := by rw [hw1, ← hgs]; exact bld_new w
  have hs1 : g + 1 ≤ w1.heap.size := by rw [hw1, ← hgs]; simp
  have hp0 := fun W => va_put (l.length : Int) (by omega) (by omega) W
  have hl0 := putV_len (n := (l.length : Int)) (by omega) (by omega)
  obtain ⟨T0, hT0⟩ : ∃ T : ByteArray, (⟨(putV (l.length : Int)).toArray⟩ : ByteArray) = T := ⟨_, rfl⟩
  have e0 : T0.data.toList = putV (l.length : Int) := by rw [← hT0]
  have z0 : T0.size ≤ 10 := by rw [← bs_len, e0]; exact hl0
  rw [hT0] at hp0
  have HW1 := Lib.hid hw1
  have HC1 := Lib.hid hc1
  have HBL1 := Lib.hid hbl1
  have HP0 := Lib.hid hp0
  have E0 := Lib.hid e0
  have H3 := Lib.hid h3
  have HG := Lib.hid hg
  have H := Lib.hid h
  have HGS := Lib.hid hgs
  clear hw1 hc1 hbl1 hp0 e0 h3 hg h hgs
  clear hT0
  go_enter Tryz.func31, Tryz.ntmps31
  go_upto_region 4 with fail
  rw [HGS.out]
  rw [← HW1.out]
  go_wp2_with fail
  refine (HP0.out _).mono ?_
  rintro e w2 ⟨rfl, hc2⟩
  have HBL2 := Lib.hid (HBL1.out.chg hc2)
  have hc02 := HC1.out.then hc2
  have hs2 := Nat.le_trans hs1 hc2.size
  have HC02 := Lib.hid hc02
  clear hc02
  clear hc2
  go_wp2_with fail
  with_reducible refine (bl_write_k g g [] T0 w2 HBL2.out (by simp; omega) (by omega)).mono ?_
  rintro e w3 ⟨rfl, hbl3, hc3, _⟩
  rw [List.nil_append, E0.out] at hbl3
  have hc03 : Chg (fun _ => False) w w3 := HC02.out.trans hc3 fun k hk hh => by have := HGS.out; omega
  have hs3 := Nat.le_trans hs2 hc3.size
  have HBL3 := Lib.hid hbl3
  have HC03 := Lib.hid hc03
  clear hbl3 hc03
  clear hc3
  go_wp2_with fail
  go_loopw [17] (fun i wr => ∃ A R, l = A ++ R ∧ i = .int .i64 (A.length : Int) ∧ BldAt g g (putV (l.length : Int) ++ A.flatMap putI) wr ∧ g + 1 ≤ wr.heap.size ∧ Chg (fun _ => False) w wr) (fun i _ => l.length - (intOf i).toNat)
  case atStart => exact ⟨[], l, rfl, rfl, by simpa using HBL3.out, hs3, HC03.out⟩
  case round =>
    obtain ⟨A, R, hl', rfl, hB, hsr, hcr⟩ := hrel
    have hAl : A.length ≤ l.length := by rw [hl']; simp
    cases R with
    | nil =>
      have hlt : ¬ ((A.length : Int) < (l.length : Int)) := by rw [hl']; simp
      have hE : putV (l.length : Int) ++ A.flatMap putI = putIs l := by rw [hl']; simp [putIs]
      rw [hE] at hB
      have HB := Lib.hid hB
      have HCR := Lib.hid hcr
      clear hB hcr
      clear hl' hE
      go_wp2_with fail
      with_reducible refine (bl_string g g _ wr HB.out (by omega)).mono ?_
      rintro e w4 ⟨rfl, hc4⟩
      have hc04 : Chg (fun _ => False) w w4 := HCR.out.trans hc4 fun k hk hh => by have := HGS.out; omega
      have HC04 := Lib.hid hc04
      clear hc04
      clear hc4
      go_wp2_with fail
      go_ret2
      exact ⟨rfl, HC04.out⟩
    | cons x R =>
      have hlt : (A.length : Int) < (l.length : Int) := by rw [hl']; simp; omega
      obtain ⟨b, rfl, hb, _, z0', z1', z2', z3', z4'⟩ := H3.out A x R hl'
      have y0 := ky_chg hcr z0'
      have y1 := ky_chg hcr z1'
      have y2 := ky_chg hcr z2'
      have y3 := ky_chg hcr z3'
      have y4 := ky_chg hcr z4'
      have hl2 : l = (A ++ [x]) ++ R := by rw [hl']; simp
      have hge : (0 : Int) ≤ (A.length : Int) := by omega
      obtain ⟨hgx, hfx⟩ := HG.out x (by rw [hl']; simp)
      obtain ⟨k1, k2, k3, k4, k5⟩ := goodI_zero hgx hfx.t.2
      obtain ⟨P, hP⟩ : ∃ P, putV (l.length : Int) ++ A.flatMap putI = P := ⟨_, rfl⟩
      rw [hP] at hB
      have hpre : P.length ≤ 60000 := by
        have h1 := putIs_pre A fun y hy => HG.out y (by rw [hl']; simp [hy])
        rw [← hP, List.length_append, ← E0.out, bs_len]
        omega
      have hnext : putV (l.length : Int) ++ (A ++ [x]).flatMap putI = P ++ putI x := by rw [← hP]; simp
      obtain ⟨bx, hbx⟩ : ∃ bx, wr.heap.size = bx := ⟨_, rfl⟩
      obtain ⟨W, hW⟩ : ∃ W, W = wr.alloc (.cells #[.string x.key, .int .i64 x.seq, .bool x.gone, .string x.value, .int .i64 x.till] 41) := ⟨_, rfl⟩
      have hbW : Blk W bx 41 #[.string x.key, .int .i64 x.seq, .bool x.gone, .string x.value, .int .i64 x.till] := by rw [hW, ← hbx]; exact Blk.new _ _ _
      have hcW : Chg (fun _ => False) wr W := by rw [hW]; exact (Chg.refl _ _).alloc _
      have hBW := hB.chg hcW
      have hc0W := hcr.then hcW
      have hsW := Nat.le_trans hsr hcW.size
      have hgd := fun W => ba_good x W
      rw [hgx] at hgd
      have p1 := fun W => va_puttext x.key (by omega) W
      have p2 := fun W => va_puttext x.value (by omega) W
      have p3 := fun W => va_put 0 (by omega) (by omega) W
      have p4 := fun W => va_put (x.till + 1) (by omega) (by omega) W
      have l1 := putT_len (s := x.key) (by omega)
      have l2 := putT_len (s := x.value) (by omega)
      have l3 := putV_len (n := 0) (by omega) (by omega)
      have l4 := putV_len (n := x.till + 1) (by omega) (by omega)
      obtain ⟨T1, hT1⟩ : ∃ T : ByteArray, (⟨(putT x.key).toArray⟩ : ByteArray) = T := ⟨_, rfl⟩
      obtain ⟨T2, hT2⟩ : ∃ T : ByteArray, (⟨(putT x.value).toArray⟩ : ByteArray) = T := ⟨_, rfl⟩
      obtain ⟨T3, hT3⟩ : ∃ T : ByteArray, (⟨(putV 0).toArray⟩ : ByteArray) = T := ⟨_, rfl⟩
      obtain ⟨T4, hT4⟩ : ∃ T : ByteArray, (⟨(putV (x.till + 1)).toArray⟩ : ByteArray) = T := ⟨_, rfl⟩
      have e1 : T1.data.toList = putT x.key := by rw [← hT1]
      have e2 : T2.data.toList = putT x.value := by rw [← hT2]
      have e3 : T3.data.toList = putV 0 := by rw [← hT3]
      have e4 : T4.data.toList = putV (x.till + 1) := by rw [← hT4]
      have z1 : T1.size ≤ 74 := by rw [← bs_len, e1]; omega
      have z2 : T2.size ≤ 522 := by rw [← bs_len, e2]; omega
      have z3 : T3.size ≤ 10 := by rw [← bs_len, e3]; omega
      have z4 : T4.size ≤ 10 := by rw [← bs_len, e4]; omega
      rw [hT1] at p1
      rw [hT2] at p2
      rw [hT3] at p3
      rw [hT4] at p4
      have hti := IntWalk.i64_in (x.till + 1) (by omega)
      have hpi := putI_eq x
      have hbne : bx ≠ g := by omega
      have HL2 := Lib.hid hl2
      have HB := Lib.hid hB
      have HCR := Lib.hid hcr
      have HNEXT := Lib.hid hnext
      have HW := Lib.hid hW
      have HBW := Lib.hid hbW
      have HCW := Lib.hid hcW
      have HBW' := Lib.hid hBW
      have HC0W := Lib.hid hc0W
      have HGD := Lib.hid hgd
      have P1 := Lib.hid p1
      have P2 := Lib.hid p2
      have P3 := Lib.hid p3
      have P4 := Lib.hid p4
      have E1 := Lib.hid e1
      have E2 := Lib.hid e2
      have E3 := Lib.hid e3
      have E4 := Lib.hid e4
      have HPI := Lib.hid hpi
      have HBX := Lib.hid hbx
      clear hl2 hB hcr hnext hW hbW hcW hBW hc0W hgd p1 p2 p3 p4 e1 e2 e3 e4 hpi hbx
      clear hl' hb z0' z1' z2' z3' z4' l1 l2 l3 l4 hT1 hT2 hT3 hT4 hP hgx hfx k3
      go_upto_region 8 with fail
      rw [HBX.out]
      rw [← HW.out]
      clear y0 y1 y2 y3 y4
      have y0 := HBW.out.cell 0
      have y1 := HBW.out.cell 1
      have y2 := HBW.out.cell 2
      have y3 := HBW.out.cell 3
      have y4 := HBW.out.cell 4
      simp at y0 y1 y2 y3 y4
      go_wp2_with fail
      refine (HGD.out _).mono ?_
      rintro e w4 ⟨rfl, hc4⟩
      have hb4 := HBW.out.chg hc4 (by simp)
      have hB4 := HBW'.out.chg hc4
      have hc04 := HC0W.out.then hc4
      have hs4 := Nat.le_trans hsW hc4.size
      clear y0 y1 y2 y3 y4
      have y0 := hb4.cell 0
      simp at y0
      have HB4 := Lib.hid hb4
      have HBB4 := Lib.hid hB4
      have HC04 := Lib.hid hc04
      clear hb4 hB4 hc04
      clear hc4
      go_wp2_with fail
      refine (P1.out _).mono ?_
      rintro e w5 ⟨rfl, hc5⟩
      have hb5 := HB4.out.chg hc5 (by simp)
      have hB5 := HBB4.out.chg hc5
      have hc05 := HC04.out.then hc5
      have hs5 := Nat.le_trans hs4 hc5.size
      clear y0
      have HB5 := Lib.hid hb5
      have HBB5 := Lib.hid hB5
      have HC05 := Lib.hid hc05
      clear hb5 hB5 hc05
      clear hc5
      go_wp2_with fail
      with_reducible refine (bl_write_k g g P T1 w5 HBB5.out (by omega) (by omega)).mono ?_
      rintro e w6 ⟨rfl, hB6, hc6, hk6⟩
      rw [E1.out] at hB6
      have hb6 := hk6 _ _ _ HB5.out hbne (by decide)
      have hc06 : Chg (fun _ => False) w w6 := HC05.out.trans hc6 fun k hk hh => by have := HGS.out; omega
      have hs6 := Nat.le_trans hs5 hc6.size
      have y2 := hb6.cell 2
      have y3 := hb6.cell 3
      have y4 := hb6.cell 4
      simp at y2 y3 y4
      have hl6 : (P ++ putT x.key).length ≤ 60100 := by
        rw [List.length_append, ← E1.out, bs_len]; omega
      have HB6 := Lib.hid hb6
      have HBB6 := Lib.hid hB6
      have HC06 := Lib.hid hc06
      clear hb6 hB6 hc06
      clear hc6 hk6
      cases hgone : x.gone with
      | true =>
        rw [hgone] at y2
        clear y3 y4
        go_wp2_with fail
        refine (P3.out _).mono ?_
        rintro e w7 ⟨rfl, hc7⟩
        have hB7 := HBB6.out.chg hc7
        have hc07 := HC06.out.then hc7
        have hs7 := Nat.le_trans hs6 hc7.size
        clear y2
        have HB7 := Lib.hid hB7
        have HC07 := Lib.hid hc07
        clear hB7 hc07
        clear hc7
        go_wp2_with fail
        with_reducible refine (bl_write_k g g _ T3 w7 HB7.out (by omega) (by omega)).mono ?_
        rintro e w8 ⟨rfl, hB8, hc8, _⟩
        have hc08 : Chg (fun _ => False) w w8 := HC07.out.trans hc8 fun k hk hh => by have := HGS.out; omega
        have hs8 := Nat.le_trans hs7 hc8.size
        have hfin : P ++ putT x.key ++ T3.data.toList = putV (l.length : Int) ++ (A ++ [x]).flatMap putI := by rw [HNEXT.out, HPI.out, hgone, E3.out, if_pos rfl, List.append_assoc]
        rw [hfin] at hB8
        have HB8 := Lib.hid hB8
        have HC08 := Lib.hid hc08
        clear hB8 hc08
        clear hc8 hfin hgone
        go_wp2_with fail
        go_roundw
        case rel => exact ⟨A ++ [x], R, HL2.out, by simp, HB8.out, hs8, HC08.out⟩
        case measure => simp [intOf]; omega
      | false =>
        rw [hgone] at y2
        clear y3
        go_wp2_with fail
        refine (P4.out _).mono ?_
        rintro e w7 ⟨rfl, hc7⟩
        have hb7 := HB6.out.chg hc7 (by simp)
        have hB7 := HBB6.out.chg hc7
        have hc07 := HC06.out.then hc7
        have hs7 := Nat.le_trans hs6 hc7.size
        clear y2 y4
        have HB7 := Lib.hid hb7
        have HBB7 := Lib.hid hB7
        have HC07 := Lib.hid hc07
        clear hb7 hB7 hc07
        clear hc7
        go_wp2_with fail
        with_reducible refine (bl_write_k g g _ T4 w7 HBB7.out (by omega) (by omega)).mono ?_
        rintro e w8 ⟨rfl, hB8, hc8, hk8⟩
        have hb8 := hk8 _ _ _ HB7.out hbne (by decide)
        have hc08 : Chg (fun _ => False) w w8 := HC07.out.trans hc8 fun k hk hh => by have := HGS.out; omega
        have hs8 := Nat.le_trans hs7 hc8.size
        have y3 := hb8.cell 3
        simp at y3
        have hl8 : (P ++ putT x.key ++ T4.data.toList).length ≤ 60200 := by
          rw [List.length_append, bs_len]; omega
        have HB8 := Lib.hid hb8
        have HBB8 := Lib.hid hB8
        have HC08 := Lib.hid hc08
        clear hb8 hB8 hc08
        clear hc8 hk8
        go_wp2_with fail
        refine (P2.out _).mono ?_
        rintro e w9 ⟨rfl, hc9⟩
        have hB9 := HBB8.out.chg hc9
        have hc09 := HC08.out.then hc9
        have hs9 := Nat.le_trans hs8 hc9.size
        clear y3
        have HB9 := Lib.hid hB9
        have HC09 := Lib.hid hc09
        clear hB9 hc09
        clear hc9
        go_wp2_with fail
        with_reducible refine (bl_write_k g g _ T2 w9 HB9.out (by omega) (by omega)).mono ?_
        rintro e w10 ⟨rfl, hB10, hc10, _⟩
        have hc010 : Chg (fun _ => False) w w10 := HC09.out.trans hc10 fun k hk hh => by have := HGS.out; omega
        have hs10 := Nat.le_trans hs9 hc10.size
        have hfin : P ++ putT x.key ++ T4.data.toList ++ T2.data.toList = putV (l.length : Int) ++ (A ++ [x]).flatMap putI := by rw [HNEXT.out, HPI.out, hgone, E4.out, E2.out, if_neg (by simp)]; simp
        rw [hfin] at hB10
        have HB10 := Lib.hid hB10
        have HC010 := Lib.hid hc010
        clear hB10 hc010
        clear hc10 hfin hgone
        go_wp2_with fail
        go_roundw
        case rel => exact ⟨A ++ [x], R, HL2.out, by simp, HB10.out, hs10, HC010.out⟩
        case measure => simp [intOf]; omega
end Go.Proofs.YtljabmkmngbhkaaGreatDoor
