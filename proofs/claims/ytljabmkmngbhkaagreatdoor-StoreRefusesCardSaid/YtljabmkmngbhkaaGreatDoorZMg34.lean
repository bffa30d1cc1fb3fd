/-
  The document's numbers and texts as bytes.
  The document's number at a place.
  The program's bytes of an edit: Put.
-/
import Derived.Test.YtljabmkmngbhkaaGreatDoorZMg20
import Derived.Deep.DeepCutAuto
import Derived.Test.YtljabmkmngbhkaaGreatDoorZMg22
import Derived.Deep.RegionHeld3
namespace Go.Proofs.YtljabmkmngbhkaaGreatDoor
open Go.RowKit
set_option linter.unusedVariables false
set_option linter.unusedSimpArgs false

end Go.Proofs.YtljabmkmngbhkaaGreatDoor
namespace Go.Proofs.YtljabmkmngbhkaaGreatDoor
open Go.RowKit
set_option linter.unusedVariables false
set_option linter.unusedSimpArgs false

end Go.Proofs.YtljabmkmngbhkaaGreatDoor
namespace Go.Proofs.YtljabmkmngbhkaaGreatDoor
open Go.RowKit
set_option linter.unusedVariables false
set_option linter.unusedSimpArgs false

/-- The bytes of a table to be added; of an edit. -/
def putP (p : PlaceV) : List UInt8 := putA [p.level, p.m.file, p.m.size] ++ putT p.m.lo ++ putT p.m.hi
def putE (E : EditV) : List UInt8 := putA [E.log, E.next, E.seq, (E.drop.length : Int)] ++ putA E.drop ++ putV (E.add.length : Int) ++ E.add.flatMap putP
/-- An edit whose numbers are int64's, and whose texts are of a bounded length. -/
structure EdFit (E : EditV) : Prop where
  log : In64 E.log
  next : In64 E.next
  seq : In64 E.seq
  drop : ∀ n ∈ E.drop, In64 n
  add : ∀ p ∈ E.add, In64 p.level ∧ In64 p.m.file ∧ In64 p.m.size ∧ p.m.lo.size ≤ 1048576 ∧ p.m.hi.size ≤ 1048576
  adds : E.add.length ≤ 50000000
  drops : E.drop.length ≤ 50000000
theorem ReadInts.of_blk {w : World} {b : Nat} {t : TypeId} {l : List Int} (hb : Blk w b t (l.map fun n => Value.int .i64 n).toArray) (hl : l.length ≤ 1000000000) : ReadInts w (.slice (some ⟨b, 0, none⟩) l.length l.length) l :=
  ⟨_, _, rfl, Nat.le_refl _, by omega, fun _ => ⟨b, 0, rfl, hb.lt, fun i x hx => by rw [Nat.zero_add, hb.cell i]; simp [hx]⟩⟩
theorem Lst.rows {w : World} {v : Value} {l : List PlaceV} (h : Lst placeC w v l) : ReadRows w v l := by
  obtain ⟨a, cap, rfl, h1, h2, h3⟩ := place_form h
  refine ⟨a, cap, rfl, h1, h2, fun A x B hl => ?_⟩
  obtain ⟨b, rfl, hb, _, z0, z1, z2, z3, z4⟩ := h3 A x B hl
  exact ⟨b, 0, rfl, hb, by rw [Nat.zero_add]; exact z0, by rw [Nat.zero_add]; exact z1, by rw [Nat.zero_add]; exact z2, by rw [Nat.zero_add]; exact z3, by rw [Nat.zero_add]; exact z4⟩
theorem putP_len {p : PlaceV} (h : In64 p.level ∧ In64 p.m.file ∧ In64 p.m.size ∧ p.m.lo.size ≤ 1048576 ∧ p.m.hi.size ≤ 1048576) : (putA [p.level, p.m.file, p.m.size]).length ≤ 30 ∧ (putT p.m.lo).length ≤ 1048586 ∧ (putT p.m.hi).length ≤ 1048586 := by
  have h1 := putA_len (l := [p.level, p.m.file, p.m.size]) (by
    intro n hn
    simp at hn
    rcases hn with rfl | rfl | rfl
    · exact h.1
    · exact h.2.1
    · exact h.2.2.1)
  have h2 := putT_len (s := p.m.lo) (by omega)
  have h3 := putT_len (s := p.m.hi) (by omega)
  simp at h1
  omega
theorem putP_all {l : List PlaceV} (h : ∀ p ∈ l, In64 p.level ∧ In64 p.m.file ∧ In64 p.m.size ∧ p.m.lo.size ≤ 1048576 ∧ p.m.hi.size ≤ 1048576) : (l.flatMap putP).length ≤ 2097202 * l.length := by
  induction l with
  | nil => simp
  | cons p r ih =>
    obtain ⟨h1, h2, h3⟩ := putP_len (h p (by simp))
    have h4 := ih fun q hq => h q (by simp [hq])
    have e : (putP p).length = (putA [p.level, p.m.file, p.m.size]).length + (putT p.m.lo).length + (putT p.m.hi).length := by unfold putP; simp only [List.length_append]
    rw [List.flatMap_cons, List.length_append, List.length_cons, e]
    omega
set_option maxRecDepth 100000 in
set_option maxHeartbeats 4000000 in
theorem ve_put (E : EditV) (av dv : Value) (w : World) (hE : EdFit E) (ha : ReadRows w av E.add) (hd : ReadInts w dv E.drop) :
    Calls Tryz.prog 161 #[.agg #[av, dv, .int .i64 E.log, .int .i64 E.next, .int .i64 E.seq]] w fun e w' => e = .returned (.string ⟨(putE E).toArray⟩) ∧ Chg (fun _ => False) w w' := by
  obtain ⟨g, hg⟩ : ∃ g, w.heap.size = g := ⟨_, rfl⟩
  obtain ⟨w1, hw1⟩ : ∃ w1, w1 = (w.alloc (.cells #[av, dv, .int .i64 E.log, .int .i64 E.next, .int .i64 E.seq] 157)).alloc (.cells #[.pointer none, .slice none 0 0] 171) := ⟨_, rfl⟩
  have hc1 : Chg (fun _ => False) w w1 := by rw [hw1]; exact cgS
  have hb1 : Blk w1 g 157 #[av, dv, .int .i64 E.log, .int .i64 E.next, .int .i64 E.seq] := by rw [hw1, ← hg]; exact (Blk.new _ _ _).alloc _
  have hbl1 : BldAt (g + 1) (g + 1) [] w1 := by
    have h := bld_new (w.alloc (.cells #[av, dv, .int .i64 E.log, .int .i64 E.next, .int .i64 E.seq] 157))
    rw [← hw1] at h
    have e : (w.alloc (.cells #[av, dv, .int .i64 E.log, .int .i64 E.next, .int .i64 E.seq] 157)).heap.size = g + 1 := by rw [← hg]; simp
    rw [e] at h
    exact h
  have hs1 : g + 2 ≤ w1.heap.size := by rw [hw1, ← hg]; simp
  have hadl := hE.adds
  have hdrl := hE.drops
  -- the texts, by names
  have hl1 := putA_len (l := [E.log, E.next, E.seq, (E.drop.length : Int)]) (by
    intro n hn
    simp at hn
    rcases hn with rfl | rfl | rfl | rfl
    · exact hE.log
    · exact hE.next
    · exact hE.seq
    · omega)
  have hl2 := putA_len hE.drop
  have hl3 := putV_len (n := (E.add.length : Int)) (by omega) (by omega)
  obtain ⟨T1, hT1⟩ : ∃ T : ByteArray, (⟨(putA [E.log, E.next, E.seq, (E.drop.length : Int)]).toArray⟩ : ByteArray) = T := ⟨_, rfl⟩
  obtain ⟨T2, hT2⟩ : ∃ T : ByteArray, (⟨(putA E.drop).toArray⟩ : ByteArray) = T := ⟨_, rfl⟩
  obtain ⟨T3, hT3⟩ : ∃ T : ByteArray, (⟨(putV (E.add.length : Int)).toArray⟩ : ByteArray) = T := ⟨_, rfl⟩
  have e1 : T1.data.toList = putA [E.log, E.next, E.seq, (E.drop.length : Int)] := by rw [← hT1]
  have e2 : T2.data.toList = putA E.drop := by rw [← hT2]
  have e3 : T3.data.toList = putV (E.add.length : Int) := by rw [← hT3]
  have z1 : T1.size ≤ 40 := by rw [← bs_len, e1]; simpa using hl1
  have z2 : T2.size ≤ 500000000 := by rw [← bs_len, e2]; omega
  have z3 : T3.size ≤ 10 := by rw [← bs_len, e3]; omega
  have hp1 := fun (b : Nat) W (hW : Blk W b 2 #[.int .i64 E.log, .int .i64 E.next, .int .i64 E.seq, .int .i64 (E.drop.length : Int)]) => va_putall (.slice (some ⟨b, 0, none⟩) 4 4) [E.log, E.next, E.seq, (E.drop.length : Int)] W (ReadInts.of_blk (l := [E.log, E.next, E.seq, (E.drop.length : Int)]) hW (by simp)) (by
    intro n hn
    simp at hn
    rcases hn with rfl | rfl | rfl | rfl
    · exact hE.log
    · exact hE.next
    · exact hE.seq
    · omega) (by simp)
  have hp2 := fun W (hW : Chg (fun _ => False) w W) => va_putall dv E.drop W (hd.same hW) hE.drop (by omega)
  have hp3 := fun W => va_put (E.add.length : Int) (by omega) (by omega) W
  rw [hT1] at hp1
  rw [hT2] at hp2
  rw [hT3] at hp3
  obtain ⟨da, dc, rfl, _, _, _⟩ := hd
  obtain ⟨aa, ac, rfl, _, _, hread⟩ := ha
  have HW1 := Lib.hid hw1
  have HC1 := Lib.hid hc1
  have HB1 := Lib.hid hb1
  have HBL1 := Lib.hid hbl1
  have HE1 := Lib.hid e1
  have HE2 := Lib.hid e2
  have HE3 := Lib.hid e3
  have HP1 := Lib.hid hp1
  have HP2 := Lib.hid hp2
  have HP3 := Lib.hid hp3
  have HREAD := Lib.hid hread
  have HFIT := Lib.hid hE
  have HG := Lib.hid hg
  have y0 := hb1.cell 0
  have y1 := hb1.cell 1
  have y2 := hb1.cell 2
  have y3 := hb1.cell 3
  have y4 := hb1.cell 4
  simp at y0 y1 y2 y3 y4
  clear hw1 hc1 hb1 hbl1 e1 e2 e3 hp1 hp2 hp3 hread hE hT1 hT2 hT3 hl1 hl2 hl3
  go_enter Tryz.func161, Tryz.ntmps161
  go_upto_region 2 with fail
  rw [← HW1.out]
  go_wp2_with fail
  refine (HP1.out w1.heap.size _ (Blk.new _ _ _)).mono ?_
  rintro e w2 ⟨rfl, hc2⟩
  have hc12 : Chg (fun _ => False) w1 w2 := Chg.then ((Chg.refl _ _).alloc _) hc2
  have HB2 := Lib.hid (HB1.out.chg hc12 (by simp))
  have HBL2 := Lib.hid (HBL1.out.chg hc12)
  have HC2 := Lib.hid (HC1.out.then hc12)
  have hs2 := Nat.le_trans hs1 hc12.size
  clear hc2 hc12 y0 y1 y2 y3 y4
  go_wp2_with fail
  with_reducible refine (bl_write_k (g + 1) (g + 1) [] T1 w2 HBL2.out (by simp; omega) (by omega)).mono ?_
  rintro e w3 ⟨rfl, hb3, hc3, hk3⟩
  rw [List.nil_append, HE1.out] at hb3
  have HBL3 := Lib.hid hb3
  have HB3 := Lib.hid (hk3 _ _ _ HB2.out (by omega) (by decide))
  have HC3 := Lib.hid (HC2.out.trans hc3 fun k hk h => by have := HG.out; omega)
  have hs3 := Nat.le_trans hs2 hc3.size
  have y1 := HB3.out.cell 1
  simp at y1
  clear hb3 hc3 hk3
  go_wp2_with fail
  refine (HP2.out w3 HC3.out).mono ?_
  rintro e w4 ⟨rfl, hc4⟩
  have HBL4 := Lib.hid (HBL3.out.chg hc4)
  have HB4 := Lib.hid (HB3.out.chg hc4 (by simp))
  have HC4 := Lib.hid (HC3.out.then hc4)
  have hs4 := Nat.le_trans hs3 hc4.size
  have hlen4 : (putA [E.log, E.next, E.seq, (E.drop.length : Int)]).length + T2.size ≤ 140737488355328 := by
    have := bs_len T1
    rw [HE1.out] at this
    omega
  clear hc4 y1
  go_wp2_with fail
  with_reducible refine (bl_write_k (g + 1) (g + 1) _ T2 w4 HBL4.out hlen4 (by omega)).mono ?_
  rintro e w5 ⟨rfl, hb5, hc5, hk5⟩
  rw [HE2.out] at hb5
  have HBL5 := Lib.hid hb5
  have HB5 := Lib.hid (hk5 _ _ _ HB4.out (by omega) (by decide))
  have HC5 := Lib.hid (HC4.out.trans hc5 fun k hk h => by have := HG.out; omega)
  have hs5 := Nat.le_trans hs4 hc5.size
  have y0 := HB5.out.cell 0
  simp at y0
  clear hb5 hc5 hk5
  go_wp2_with fail
  refine (HP3.out w5).mono ?_
  rintro e w6 ⟨rfl, hc6⟩
  have HBL6 := Lib.hid (HBL5.out.chg hc6)
  have HB6 := Lib.hid (HB5.out.chg hc6 (by simp))
  have HC6 := Lib.hid (HC5.out.then hc6)
  have hs6 := Nat.le_trans hs5 hc6.size
  have hlen6 : (putA [E.log, E.next, E.seq, (E.drop.length : Int)] ++ putA E.drop).length + T3.size ≤ 140737488355328 := by
    have h1 := bs_len T1
    have h2 := bs_len T2
    rw [HE1.out] at h1
    rw [HE2.out] at h2
    rw [List.length_append]
    omega
  clear hc6 y0
  go_wp2_with fail
  with_reducible refine (bl_write_k (g + 1) (g + 1) _ T3 w6 HBL6.out hlen6 (by omega)).mono ?_
  rintro e w7 ⟨rfl, hb7, hc7, hk7⟩
  rw [HE3.out] at hb7
  have hhead : (putA [E.log, E.next, E.seq, (E.drop.length : Int)] ++ putA E.drop ++ putV (E.add.length : Int)).length ≤ 500000100 := by
    have h1 := bs_len T1
    have h2 := bs_len T2
    have h3 := bs_len T3
    rw [HE1.out] at h1
    rw [HE2.out] at h2
    rw [HE3.out] at h3
    rw [List.length_append, List.length_append]
    omega
  obtain ⟨H, hH⟩ : ∃ H, putA [E.log, E.next, E.seq, (E.drop.length : Int)] ++ putA E.drop ++ putV (E.add.length : Int) = H := ⟨_, rfl⟩
  rw [hH] at hb7 hhead
  have HH := Lib.hid hH
  have HBL7 := Lib.hid hb7
  have HB7 := Lib.hid (hk7 _ _ _ HB6.out (by omega) (by decide))
  have HC7 := Lib.hid (HC6.out.trans hc7 fun k hk h => by have := HG.out; omega)
  have hs7 := Nat.le_trans hs6 hc7.size
  have y0 := HB7.out.cell 0
  simp at y0
  clear hb7 hc7 hk7 hlen4 hlen6 hH HB1 HB2 HB3 HB4 HB5 HB6 HBL1 HBL2 HBL3 HBL4 HBL5 HBL6 HC1 HC2 HC3 HC4 HC5 HC6 HP1 HP2 HP3 HE1 HE2 HE3 z1 z2 z3 HW1
  go_wp2_with fail
  clear y0
  go_loopw [31] (fun i wr => ∃ A R, E.add = A ++ R ∧ i = .int .i64 (A.length : Int) ∧ BldAt (g + 1) (g + 1) (H ++ A.flatMap putP) wr ∧ g + 2 ≤ wr.heap.size ∧ Chg (fun _ => False) w wr) (fun i _ => E.add.length - (intOf i).toNat)
  case atStart => exact ⟨[], E.add, rfl, rfl, by rw [List.flatMap_nil, List.append_nil]; exact HBL7.out, hs7, HC7.out⟩
  case round =>
    obtain ⟨A, R, hl, rfl, hB, hszr, hcr⟩ := hrel
    have hAl : A.length ≤ E.add.length := by rw [hl]; simp
    have HB := Lib.hid hB
    have HCR := Lib.hid hcr
    obtain ⟨wq, rfl⟩ : ∃ wq : World, wq = wr := ⟨_, rfl⟩
    clear hB hcr
    cases R with
    | nil =>
      have hge : ¬ ((A.length : Int) < (E.add.length : Int)) := by rw [hl]; simp
      have hEA : E.add = A := by rw [hl]; simp
      have HEA := Lib.hid hEA
      clear hl hEA
      go_wp2_with fail
      with_reducible refine (bl_string (g + 1) (g + 1) _ wq HB.out (by omega)).mono ?_
      rintro e w2 ⟨rfl, hc2⟩
      have HC2 := Lib.hid (HCR.out.trans hc2 fun k hk h => by have := HG.out; omega)
      clear hc2
      go_wp2_with fail
      go_ret
      exact ⟨by unfold putE; rw [HEA.out, ← HH.out, HEA.out]; rfl, HC2.out⟩
    | cons x R =>
      have hlt : (A.length : Int) < (E.add.length : Int) := by rw [hl]; simp; omega
      obtain ⟨b, off, rfl, hb, z0, z1, z2, z3, z4⟩ := HREAD.out A x R hl
      have y0 := ky_chg HCR.out z0
      have y1 := ky_chg HCR.out z1
      have y2 := ky_chg HCR.out z2
      have y3 := ky_chg HCR.out z3
      have y4 := ky_chg HCR.out z4
      have hx := HFIT.out.add x (by rw [hl]; simp)
      have hAfit := putP_all (l := A) fun y hy => HFIT.out.add y (by rw [hl]; simp [hy])
      have hl2 : E.add = (A ++ [x]) ++ R := by rw [hl]; simp
      have HL2 := Lib.hid hl2
      have hge : (0 : Int) ≤ (A.length : Int) := by omega
      clear hl hl2 z0 z1 z2 z3 z4 hb
      obtain ⟨q, hq⟩ : ∃ q, wq.heap.size = q := ⟨_, rfl⟩
      obtain ⟨w2, hw2⟩ : ∃ w2, w2 = (wq.alloc (.cells #[.int .i64 x.level, .int .i64 x.m.file, .int .i64 x.m.size, .string x.m.lo, .string x.m.hi] 160)).alloc (.cells #[.int .i64 x.m.file, .int .i64 x.m.size, .string x.m.lo, .string x.m.hi] 112) := ⟨_, rfl⟩
      have hc2 : Chg (fun _ => False) wq w2 := by rw [hw2]; exact cgS
      have hbp : Blk w2 q 160 #[.int .i64 x.level, .int .i64 x.m.file, .int .i64 x.m.size, .string x.m.lo, .string x.m.hi] := by rw [hw2, ← hq]; exact (Blk.new _ _ _).alloc _
      have hbm : Blk w2 (q + 1) 112 #[.int .i64 x.m.file, .int .i64 x.m.size, .string x.m.lo, .string x.m.hi] := by rw [hw2, ← hq]; exact Blk.new1 _ _ _ _
      have hbl2 := HB.out.chg hc2
      have HW2 := Lib.hid hw2
      have HC2 := Lib.hid (HCR.out.then hc2)
      have hs2 := Nat.le_trans hszr hc2.size
      have HBP := Lib.hid hbp
      have HBM := Lib.hid hbm
      have HBL2 := Lib.hid hbl2
      -- the texts
      obtain ⟨l1, l2, l3⟩ := putP_len hx
      obtain ⟨T1, hT1⟩ : ∃ T : ByteArray, (⟨(putA [x.level, x.m.file, x.m.size]).toArray⟩ : ByteArray) = T := ⟨_, rfl⟩
      obtain ⟨T2, hT2⟩ : ∃ T : ByteArray, (⟨(putT x.m.lo).toArray⟩ : ByteArray) = T := ⟨_, rfl⟩
      obtain ⟨T3, hT3⟩ : ∃ T : ByteArray, (⟨(putT x.m.hi).toArray⟩ : ByteArray) = T := ⟨_, rfl⟩
      have e1 : T1.data.toList = putA [x.level, x.m.file, x.m.size] := by rw [← hT1]
      have e2 : T2.data.toList = putT x.m.lo := by rw [← hT2]
      have e3 : T3.data.toList = putT x.m.hi := by rw [← hT3]
      have z1 : T1.size ≤ 30 := by rw [← bs_len, e1]; exact l1
      have z2 : T2.size ≤ 1048586 := by rw [← bs_len, e2]; exact l2
      have z3 : T3.size ≤ 1048586 := by rw [← bs_len, e3]; exact l3
      have hp1 := fun (b : Nat) W (hW : Blk W b 2 #[.int .i64 x.level, .int .i64 x.m.file, .int .i64 x.m.size]) => va_putall (.slice (some ⟨b, 0, none⟩) 3 3) [x.level, x.m.file, x.m.size] W (ReadInts.of_blk (l := [x.level, x.m.file, x.m.size]) hW (by simp)) (by
        intro n hn
        simp at hn
        rcases hn with rfl | rfl | rfl
        · exact hx.1
        · exact hx.2.1
        · exact hx.2.2.1) (by simp)
      have hp2 := fun W => va_puttext x.m.lo (by omega) W
      have hp3 := fun W => va_puttext x.m.hi (by omega) W
      rw [hT1] at hp1
      rw [hT2] at hp2
      rw [hT3] at hp3
      have a1 := cat_ok T1 T2 (by omega)
      have a2 := cat_ok (T1 ++ T2) T3 (by rw [ByteArray.size_append]; omega)
      have hTT : (T1 ++ T2 ++ T3).data.toList = putP x := by unfold putP; rw [← e1, ← e2, ← e3]; simp
      have hTl : (H ++ A.flatMap putP).length + (T1 ++ T2 ++ T3).size ≤ 140737488355328 := by
        rw [ByteArray.size_append, ByteArray.size_append, List.length_append]
        have := Nat.mul_le_mul_left 2097202 (show A.length ≤ 50000000 by omega)
        omega
      have HTT := Lib.hid hTT
      have HTL := Lib.hid hTl
      have HP1 := Lib.hid hp1
      have HP2 := Lib.hid hp2
      have HP3 := Lib.hid hp3
      clear hw2 hc2 hbp hbm hbl2 l1 l2 l3 hT1 hT2 hT3 e1 e2 e3 hp1 hp2 hp3 hTT hTl hx
      go_upto_region 9 with fail
      rw [← HW2.out]
      clear y0 y1 y2 y3 y4
      go_region_held3 (fun w' => Blk w' q 160 #[.int .i64 x.level, .int .i64 x.m.file, .int .i64 x.m.size, .string x.m.lo, .string x.m.hi] ∧ Blk w' (q + 1) 112 #[.int .i64 x.m.file, .int .i64 x.m.size, .string x.m.lo, .string x.m.hi] ∧ w'.cell? ⟨q, 0, none⟩ = some (.int .i64 x.level) ∧ w'.cell? ⟨q + 1, 0, none⟩ = some (.int .i64 x.m.file) ∧ w'.cell? ⟨q + 1, 1, none⟩ = some (.int .i64 x.m.size) ∧ w'.cell? ⟨q + 1, 2, none⟩ = some (.string x.m.lo) ∧ w'.cell? ⟨q + 1, 3, none⟩ = some (.string x.m.hi))
        ((go_split_ands; (try dsimp only); have hBp := HBP.out; have hBm := HBM.out; refine (fun h k => ⟨h, k, by have := h.cell 0; simpa using this, by have := k.cell 0; simpa using this, by have := k.cell 1; simpa using this, by have := k.cell 2; simpa using this, by have := k.cell 3; simpa using this⟩) ?_ ?_ <;> (repeat (first | with_reducible assumption | with_reducible refine Blk.drew ?_ | with_reducible refine Blk.alloc ?_ _ | with_reducible refine Blk.chg ?_ hd5 (by simp) | with_reducible refine Blk.chg ?_ hd4 (by simp) | with_reducible refine Blk.chg ?_ hd3 (by simp) | with_reducible refine hk6 _ _ _ ?_ (by omega) (by decide)))))
        (first
          | (go_at_call 244; refine (HP1.out _ _ (by first | with_reducible exact Blk.new _ _ _ | with_reducible exact Blk.drew (Blk.new _ _ _))).mono ?_; rintro e w3 ⟨rfl, hd3⟩; have hC3 : Chg (fun _ => False) w2 w3 := (Chg.then cgR hd3))
          | (go_at_call 77; refine (HP2.out _).mono ?_; rintro e w4 ⟨rfl, hd4⟩; have hC4 : Chg (fun _ => False) w2 w4 := (Chg.then cgR hd4))
          | (go_at_call 77; refine (HP3.out _).mono ?_; rintro e w5 ⟨rfl, hd5⟩; have hC5 : Chg (fun _ => False) w2 w5 := (Chg.then cgR hd5))
          | (go_at_call 74; refine (bl_write_k (g + 1) (g + 1) (H ++ A.flatMap putP) (T1 ++ T2 ++ T3) _ (HBL2.out.chg cgR) HTL.out (Nat.le_trans (by omega) (Chg.size (S := fun _ => False) (w := w2) cgR))).mono ?_; rintro e w6 ⟨rfl, hb6, hd6, hk6⟩; have hC6 : Chg (fun k => g + 1 ≤ k) w2 w6 := Chg.then (Chg.mono (S := fun _ => False) cgR (fun k hk h => absurd h id)) hd6; have hs6 := Nat.le_trans (Nat.le_trans hs2 (Chg.size hC6)) (Nat.le_refl _)))
      have hb7 : BldAt (g + 1) (g + 1) (H ++ (A ++ [x]).flatMap putP) w6 := by
        rw [HTT.out] at hb6
        have e : H ++ (A ++ [x]).flatMap putP = H ++ A.flatMap putP ++ putP x := by simp
        rw [e]
        exact hb6
      have hc7 : Chg (fun _ => False) w w6 := HC2.out.trans hC6 fun k hk h => by have := HG.out; omega
      have HB7 := Lib.hid hb7
      have HC7 := Lib.hid hc7
      clear hb6 hb7 hc7 hC6 hd6 hk6 hC3 hC4 hC5 hd3 hd4 hd5 a1 a2
      go_wp2_with fail
      go_roundw
      case rel => exact ⟨A ++ [x], R, HL2.out, by simp, HB7.out, by omega, HC7.out⟩
      case measure => simp [intOf]; omega
end Go.Proofs.YtljabmkmngbhkaaGreatDoor
