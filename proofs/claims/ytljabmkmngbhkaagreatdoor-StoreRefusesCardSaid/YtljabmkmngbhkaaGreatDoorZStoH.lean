/-
  A fresh disk is opened: load.
-/
import Derived.Test.YtljabmkmngbhkaaGreatDoorZStoG
import Derived.Deep.RegionHeld3
import Derived.RegionTactic
import Derived.BigRegion
import Derived.Deep.RegionLaw
namespace Go.Proofs.YtljabmkmngbhkaaGreatDoor
open Go.RowKit
set_option linter.unusedVariables false
set_option linter.unusedSimpArgs false

def needA (nm : ByteArray) : Bool := needM nm (-1) 0 (filesOf (flatF fun _ => []))
def needB (nm : ByteArray) : Bool := needM nm 0 1 (filesOf (flatF fun _ => []))
def ldA (D : DiskV) : Int × DiskV := cleanM needA D
def ldB (D : DiskV) : Int × DiskV := createW (ldA D).2 (logN 1)
def ldC (D : DiskV) : Int × DiskV := startM (ldB D).2 0 V1
def ldD (D : DiskV) : Int × DiskV := cleanM needB (ldC D).2
structure FreshD (D : DiskV) : Prop where
  r : (readD D curB).2 = 10
  n : hasTx (namesL D) curB = false
  a : (ldA D).1 = 0
  b : (ldB D).1 = 0
  c : (ldC D).1 = 0
  d : (ldD D).1 = 0
  p0 : PSm 1000 D
  p1 : PSm 1000 (ldA D).2
  p2 : PSm 1000 (ldB D).2
  p3 : PSm 1000 (ldC D).2
def loadS (S : StV) : StV := { forgetS S with log := 1, next := 2, D := (ldD S.D).2 }
theorem StAt.grow {w0 w w' : World} {p : StP} {Y : Nat → Prop} {F : CfgV} {S : StV} (h : StAt w0 w p Y F S) (hc : Chg (fun _ => False) w w') : StAt w0 w' p (fun k => Y k ∨ (w.heap.size ≤ k ∧ k < w'.heap.size)) F S :=
  { h.same hc with
    disk := h.disk.grow hc
    foot := fun k hk => ⟨.inl (h.foot k hk).1, (h.foot k hk).2⟩ }
theorem nilL_own {i k : Nat} (h : (nilL i).ownBlock = some k) : False := by simp [nilL, Value.ownBlock] at h
set_option maxRecDepth 100000 in
set_option maxHeartbeats 8000000 in
theorem st_load (w0 w : World) (p : StP) (Y : Nat → Prop) (F : CfgV) (S : StV) (h : StAt w0 w p Y F S) (ht : Tab w0) (he : ErrOk w0) (hF : FreshD S.D) (z1 : S.log = 0) (z2 : S.next = 0) (z3 : S.vseq = 0) (z4 : S.man = 0) (z5 : S.told = 0) (z6 : S.seq = 0) (hL0 : S.L = []) :
    Calls Tryz.prog 29 #[.pointer (some ⟨p.s, 0, none⟩)] w fun e w' => e = .returned (.int .i64 0) ∧ SPostY w0 p Y F (loadS S) w' := by
  have hld := ma_load0 p.d S.D Y w0 w h.disk hF.r
  unfold zVer at hld
  have y0 := h.blk.cell 0
  simp [stCells] at y0
  have HLD := Lib.hid hld
  have H := Lib.hid h
  have HF := Lib.hid hF
  clear hld h hF
  go_enter Tryz.func29, Tryz.ntmps29
  go_wp2_with fail
  refine HLD.out.mono ?_
  rintro e w1 ⟨rfl, hc1⟩
  obtain ⟨b3, hb3⟩ : ∃ b3, w1.heap.size = b3 := ⟨_, rfl⟩
  obtain ⟨w2, hw2⟩ : ∃ w2, w2 = w1.alloc (.cells #[.slice none 0 0, .slice none 0 0, .slice none 0 0, .slice none 0 0, .int .i64 0, .int .i64 0, .int .i64 0] 62) := ⟨_, rfl⟩
  have hc2 : Chg (fun _ => False) w1 w2 := by rw [hw2]; exact (Chg.refl _ _).alloc _
  have hn3 : Blk w2 b3 62 #[.slice none 0 0, .slice none 0 0, .slice none 0 0, .slice none 0 0, .int .i64 0, .int .i64 0, .int .i64 0] := by rw [hw2, ← hb3]; exact Blk.new _ _ _
  have hat2 := H.out.grow (hc1.then hc2)
  have hY2 : ∃ Y2 : Nat → Prop, Y2 = fun k => Y k ∨ (w.heap.size ≤ k ∧ k < w2.heap.size) := ⟨_, rfl⟩
  obtain ⟨Y2, hY2⟩ := hY2
  rw [← hY2] at hat2
  have hY23 : Y2 b3 := by rw [hY2]; exact .inr ⟨by have := hc1.size; omega, hn3.lt⟩
  have hYY : ∀ k, Y k → Y2 k := fun k e => by rw [hY2]; exact .inl e
  have y0 := hat2.blk.cell 0
  simp [stCells] at y0
  have hp0 := HF.out.p0
  have hnn := hp0.n
  have hnl : (namesL S.D).length = S.D.names.length := by simp [namesL]
  have hli := y_list w0 p.d S.D Y2 (by omega) hp0.an w2 hat2.disk
  have HB3 := Lib.hid hb3
  have HW2 := Lib.hid hw2
  have HN3 := Lib.hid hn3
  have HAT2 := Lib.hid hat2
  have HLI := Lib.hid hli
  have HP0 := Lib.hid hp0
  clear hb3 hw2 hn3 hat2 hli hp0
  clear hc1 hc2 hY2
  go_upto_region 2 with fail
  rw [HB3.out]
  rw [← HW2.out]
  go_wp2_with fail
  refine HLI.out.mono ?_
  rintro e w3 ⟨lv, rfl, hL, _, hc3⟩
  have hhas := has_str (namesL S.D) lv curB w3 hL (by omega)
  rw [HF.out.n] at hhas
  have hat3 := HAT2.out.same hc3
  have hn33 := HN3.out.chg hc3 (by simp)
  have HHAS := Lib.hid hhas
  have HAT3 := Lib.hid hat3
  have HN33 := Lib.hid hn33
  clear hhas hat3 hn33
  clear hL hc3 HLI HLD
  go_wp2_with fail
  refine HHAS.out.mono ?_
  rintro e w4 ⟨rfl, rfl⟩
  have hcl := fun W (hW : Chg (fun _ => False) w3 W) => ma_clean (-1) nilL (fun _ => []) 0 0 0 p.d S.D 1000 (by omega) HP0.out Y2 w0 W (HAT3.out.disk.same hW) ht he (nil_ver W) (fun i hi k e => (nilL_own e).elim) (fun i hi => by simp)
  unfold nilL at hcl
  have hca : (cleanM (fun nm => needM nm (-1) 0 (filesOf (flatF fun x => []))) S.D).1 = 0 := HF.out.a
  have hy3 := HAT3.out.blk.cell 0
  simp [stCells] at hy3
  have x0 := HN33.out.cell 0
  have x1 := HN33.out.cell 1
  have x2 := HN33.out.cell 2
  have x3 := HN33.out.cell 3
  have x4 := HN33.out.cell 4
  have x5 := HN33.out.cell 5
  have x6 := HN33.out.cell 6
  simp at x0 x1 x2 x3 x4 x5 x6
  have hk4 : ∀ W W', Chg (fun _ => False) w3 W → DY w0 W' p.d (ldA S.D).2 Y2 → Kept Y2 W W' → StAt w0 W' p Y2 F { S with D := (ldA S.D).2 } ∧ Blk W' b3 62 #[.slice none 0 0, .slice none 0 0, .slice none 0 0, .slice none 0 0, .int .i64 0, .int .i64 0, .int .i64 0] := fun W W' hW hd hk =>
    ⟨(HAT3.out.same hW).kept hk hd, (HN33.out.chg hW (by simp)).kept hk hY23⟩
  have hkc : ∀ W', StAt w0 W' p Y2 F { S with D := (ldA S.D).2 } ∧ Blk W' b3 62 #[.slice none 0 0, .slice none 0 0, .slice none 0 0, .slice none 0 0, .int .i64 0, .int .i64 0, .int .i64 0] → W'.cell? ⟨p.s, 0, none⟩ = some (.pointer (some ⟨p.d, 0, none⟩)) ∧ W'.cell? ⟨b3, 0, none⟩ = some (.slice none 0 0) ∧ W'.cell? ⟨b3, 1, none⟩ = some (.slice none 0 0) ∧ W'.cell? ⟨b3, 2, none⟩ = some (.slice none 0 0) ∧ W'.cell? ⟨b3, 3, none⟩ = some (.slice none 0 0) ∧ W'.cell? ⟨b3, 4, none⟩ = some (.int .i64 0) ∧ W'.cell? ⟨b3, 5, none⟩ = some (.int .i64 0) ∧ W'.cell? ⟨b3, 6, none⟩ = some (.int .i64 0) := fun W' ⟨ha, hb⟩ => ⟨ha.blk.cell 0, hb.cell 0, hb.cell 1, hb.cell 2, hb.cell 3, hb.cell 4, hb.cell 5, hb.cell 6⟩
  have HCL := Lib.hid hcl
  have HK4 := Lib.hid hk4
  have HKC := Lib.hid hkc
  clear hcl hk4 hkc
  clear y0
  go_wp2_with fail
  go_region_held3 (fun w' => w'.cell? ⟨p.s, 0, none⟩ = some (.pointer (some ⟨p.d, 0, none⟩)) ∧ w'.cell? ⟨b3, 0, none⟩ = some (.slice none 0 0) ∧ w'.cell? ⟨b3, 1, none⟩ = some (.slice none 0 0) ∧ w'.cell? ⟨b3, 2, none⟩ = some (.slice none 0 0) ∧ w'.cell? ⟨b3, 3, none⟩ = some (.slice none 0 0) ∧ w'.cell? ⟨b3, 4, none⟩ = some (.int .i64 0) ∧ w'.cell? ⟨b3, 5, none⟩ = some (.int .i64 0) ∧ w'.cell? ⟨b3, 6, none⟩ = some (.int .i64 0))
    ((go_split_ands; (try dsimp only); (repeat' with_reducible apply And.intro) <;> (repeat (first | with_reducible assumption | with_reducible refine ky_drew ?_ | with_reducible refine ky_drewN _ ?_))))
    (first | (go_at_call 66; refine (HCL.out _ cgS).mono ?_; rintro e w5 ⟨rfl, hd5, hk5⟩; have hq5 := HK4.out _ w5 cgS hd5 hk5; obtain ⟨u0, u1, u2, u3, u4, u5, u6, u7⟩ := HKC.out w5 hq5))
  obtain ⟨hat5, hb5⟩ := hq5
  have hs5 := hat5.blk
  have q13 : w5.cell? ⟨p.s, 13, none⟩ = some (.slice none 0 0) := by have z := hs5.cell 13; simpa [stCells, z1, z2, z3, z6] using z
  have g13 := hs5.frozen 13
  have k13 : w5.setCell ⟨p.s, 13, none⟩ (.slice none 0 0) = w5 := set_self hs5 13 _ (by simp [stCells, z1, z2, z3, z6])
  have q14 : w5.cell? ⟨p.s, 14, none⟩ = some (.slice none 0 0) := by have z := hs5.cell 14; simpa [stCells, z1, z2, z3, z6] using z
  have g14 := hs5.frozen 14
  have k14 : w5.setCell ⟨p.s, 14, none⟩ (.slice none 0 0) = w5 := set_self hs5 14 _ (by simp [stCells, z1, z2, z3, z6])
  have q15 : w5.cell? ⟨p.s, 15, none⟩ = some (.slice none 0 0) := by have z := hs5.cell 15; simpa [stCells, z1, z2, z3, z6] using z
  have g15 := hs5.frozen 15
  have k15 : w5.setCell ⟨p.s, 15, none⟩ (.slice none 0 0) = w5 := set_self hs5 15 _ (by simp [stCells, z1, z2, z3, z6])
  have q16 : w5.cell? ⟨p.s, 16, none⟩ = some (.slice none 0 0) := by have z := hs5.cell 16; simpa [stCells, z1, z2, z3, z6] using z
  have g16 := hs5.frozen 16
  have k16 : w5.setCell ⟨p.s, 16, none⟩ (.slice none 0 0) = w5 := set_self hs5 16 _ (by simp [stCells, z1, z2, z3, z6])
  have q17 : w5.cell? ⟨p.s, 17, none⟩ = some (.int .i64 0) := by have z := hs5.cell 17; simpa [stCells, z1, z2, z3, z6] using z
  have g17 := hs5.frozen 17
  have k17 : w5.setCell ⟨p.s, 17, none⟩ (.int .i64 0) = w5 := set_self hs5 17 _ (by simp [stCells, z1, z2, z3, z6])
  have q18 : w5.cell? ⟨p.s, 18, none⟩ = some (.int .i64 0) := by have z := hs5.cell 18; simpa [stCells, z1, z2, z3, z6] using z
  have g18 := hs5.frozen 18
  have k18 : w5.setCell ⟨p.s, 18, none⟩ (.int .i64 0) = w5 := set_self hs5 18 _ (by simp [stCells, z1, z2, z3, z6])
  have q19 : w5.cell? ⟨p.s, 19, none⟩ = some (.int .i64 0) := by have z := hs5.cell 19; simpa [stCells, z1, z2, z3, z6] using z
  have g19 := hs5.frozen 19
  have k19 : w5.setCell ⟨p.s, 19, none⟩ (.int .i64 0) = w5 := set_self hs5 19 _ (by simp [stCells, z1, z2, z3, z6])
  have q28 : w5.cell? ⟨p.s, 28, none⟩ = some (.int .i64 0) := by have z := hs5.cell 28; simpa [stCells, z1, z2, z3, z6] using z
  have g28 := hs5.frozen 28
  have k28 : w5.setCell ⟨p.s, 28, none⟩ (.int .i64 0) = w5 := set_self hs5 28 _ (by simp [stCells, z1, z2, z3, z6])
  have hc56 : Chg (fun _ => False) w5 w5.drew := Chg.drew (Chg.refl _ _)
  have hat6 := hat5.same hc56
  have hb6 := hb5.chg hc56 (by simp)
  have HAT6 := Lib.hid hat6
  have HB6 := Lib.hid hb6
  clear hat6 hb6
  clear hd5 hk5 hat5 hb5 hs5 hc56 x0 x1 x2 x3 x4 x5 x6 hy3
  go_wp2_with fail
  go_region
  obtain ⟨w6, hw6⟩ : ∃ w6, w5.drew = w6 := ⟨_, rfl⟩
  rw [hw6]
  have hat6 := HAT6.out
  have hb6 := HB6.out
  rw [hw6] at hat6 hb6
  have y12 := hat6.blk.cell 12
  have y18 := hat6.blk.cell 18
  have y28 := hat6.blk.cell 28
  simp [stCells, z2, z6] at y12 y18 y28
  have HAT6' := Lib.hid hat6
  have HB6' := Lib.hid hb6
  clear hat6 hb6
  clear hw6 HAT6 HB6 u0 u1 u2 u3 u4 u5 u6 u7 q13 g13 k13 q14 g14 k14 q15 g15 k15 q16 g16 k16 q17 g17 k17 q18 g18 k18 q19 g19 k19 q28 g28 k28
  have hzz : Chg (fun _ => False) w6 (w6.alloc (.cells #[.slice none 0 0, .slice none 0 0, .int .i64 0, .int .i64 0, .int .i64 0] 157)) := (Chg.refl _ _).alloc _
  have n18 := ky_chg hzz y18
  have n28 := ky_chg hzz y28
  clear hzz
  go_wp2_with fail
  go_region
  obtain ⟨b9, hb9⟩ : ∃ b9, w6.heap.size = b9 := ⟨_, rfl⟩
  obtain ⟨w7, hw7⟩ : ∃ w7, w7 = (w6.alloc (.cells #[.slice none 0 0, .slice none 0 0, .int .i64 1, .int .i64 2, .int .i64 0] 157)).drew := ⟨_, rfl⟩
  have hc67 : Chg (fun _ => False) w6 w7 := by rw [hw7]; exact Chg.drew ((Chg.refl _ _).alloc _)
  have hn9 : Blk w7 b9 157 #[.slice none 0 0, .slice none 0 0, .int .i64 1, .int .i64 2, .int .i64 0] := by rw [hw7, ← hb9]; exact Blk.drew (Blk.new _ _ _)
  have hat7 := HAT6'.out.grow hc67
  obtain ⟨Y7, hY7⟩ : ∃ Y7 : Nat → Prop, Y7 = fun k => Y2 k ∨ (w6.heap.size ≤ k ∧ k < w7.heap.size) := ⟨_, rfl⟩
  rw [← hY7] at hat7
  have hY79 : Y7 b9 := by rw [hY7]; exact .inr ⟨by omega, hn9.lt⟩
  have hYY7 : ∀ k, Y k → Y7 k := fun k e => by rw [hY7]; exact .inl (hYY k e)
  rw [hb9]
  rw [← hw7]
  have hN0 : p.N.length = 0 := by rw [← List.length_map (f := fun x : NodeV => x.e), hat7.ent]; simp [hL0]
  have hlen := sk_len p.l p.hb (.slice none 0 0) [] p.N S.size w7 hat7.skip
  rw [hN0] at hlen
  have hlen : Calls Tryz.prog 68 #[.pointer (some ⟨p.l, 0, none⟩)] w7 fun r w' => r = .returned (.int .i64 0) ∧ w7 = w' := hlen
  have y0 := hat7.blk.cell 0
  have y12 := hat7.blk.cell 12
  simp [stCells] at y0 y12
  have x0 := hn9.cell 0
  have x1 := hn9.cell 1
  have x2 := hn9.cell 2
  have x3 := hn9.cell 3
  have x4 := hn9.cell 4
  simp at x0 x1 x2 x3 x4
  have hp1 := HF.out.p1
  have hcr : ∀ W, Chg (fun _ => False) w7 W → Calls Tryz.prog 71 #[.pointer (some ⟨p.d, 0, none⟩), .int .i64 1] W (YPost w0 W p.d Y7 (createW (ldA S.D).2 (logN 1))) := fun W hW => wal_create 1 1000 (by omega) p.d (ldA S.D).2 Y7 w0 W hp1 (by omega) (hat7.disk.same hW)
  have hcb : (createW (ldA S.D).2 (logN 1)).1 = 0 := HF.out.b
  have hk8 : ∀ W W', Chg (fun _ => False) w7 W → DY w0 W' p.d (createW (ldA S.D).2 (logN 1)).2 Y7 → Kept Y7 W W' → StAt w0 W' p Y7 F { S with D := (ldB S.D).2 } ∧ Blk W' b9 157 #[.slice none 0 0, .slice none 0 0, .int .i64 1, .int .i64 2, .int .i64 0] := fun W W' hW hd hk =>
    ⟨(hat7.same hW).kept hk hd, (hn9.chg hW (by simp)).kept hk hY79⟩
  have hkd : ∀ W', StAt w0 W' p Y7 F { S with D := (ldB S.D).2 } ∧ Blk W' b9 157 #[.slice none 0 0, .slice none 0 0, .int .i64 1, .int .i64 2, .int .i64 0] → W'.cell? ⟨p.s, 0, none⟩ = some (.pointer (some ⟨p.d, 0, none⟩)) ∧ W'.cell? ⟨b9, 0, none⟩ = some (.slice none 0 0) ∧ W'.cell? ⟨b9, 1, none⟩ = some (.slice none 0 0) ∧ W'.cell? ⟨b9, 2, none⟩ = some (.int .i64 1) ∧ W'.cell? ⟨b9, 3, none⟩ = some (.int .i64 2) ∧ W'.cell? ⟨b9, 4, none⟩ = some (.int .i64 0) := fun W' ⟨ha, hb⟩ => ⟨ha.blk.cell 0, hb.cell 0, hb.cell 1, hb.cell 2, hb.cell 3, hb.cell 4⟩
  have HLEN := Lib.hid hlen
  have HCR := Lib.hid hcr
  have HK8 := Lib.hid hk8
  have HKD := Lib.hid hkd
  clear hlen hcr hk8 hkd
  clear hw7 hc67 hat7 hn9 hN0 hb9 n18 n28 y18 y28 hp1 hca HKC HK4 HCL
  go_wp2_with fail
  refine HLEN.out.mono ?_
  rintro e w7' ⟨rfl, rfl⟩
  go_wp2_with fail
  go_region_held3 (fun w' => w'.cell? ⟨p.s, 0, none⟩ = some (.pointer (some ⟨p.d, 0, none⟩)) ∧ w'.cell? ⟨b9, 0, none⟩ = some (.slice none 0 0) ∧ w'.cell? ⟨b9, 1, none⟩ = some (.slice none 0 0) ∧ w'.cell? ⟨b9, 2, none⟩ = some (.int .i64 1) ∧ w'.cell? ⟨b9, 3, none⟩ = some (.int .i64 2) ∧ w'.cell? ⟨b9, 4, none⟩ = some (.int .i64 0))
    ((go_split_ands; (try dsimp only); (repeat' with_reducible apply And.intro) <;> (repeat (first | with_reducible assumption | with_reducible refine ky_drew ?_ | with_reducible refine ky_drewN _ ?_))))
    (first | (go_at_call 71; refine (HCR.out _ cgS).mono ?_; rintro e w8 ⟨rfl, hd8, hk8⟩; have hq8 := HK8.out _ w8 cgS hd8 hk8; obtain ⟨u0, u1, u2, u3, u4, u5⟩ := HKD.out w8 hq8))
  obtain ⟨hat8, hb8⟩ := hq8
  have hs8 := hat8.blk
  have q13 : w8.cell? ⟨p.s, 13, none⟩ = some (.slice none 0 0) := by have z := hs8.cell 13; simpa [stCells, z1, z2, z3] using z
  have q14 : w8.cell? ⟨p.s, 14, none⟩ = some (.slice none 0 0) := by have z := hs8.cell 14; simpa [stCells, z1, z2, z3] using z
  have q15 : w8.cell? ⟨p.s, 15, none⟩ = some (.slice none 0 0) := by have z := hs8.cell 15; simpa [stCells, z1, z2, z3] using z
  have q16 : w8.cell? ⟨p.s, 16, none⟩ = some (.slice none 0 0) := by have z := hs8.cell 16; simpa [stCells, z1, z2, z3] using z
  have q17 : w8.cell? ⟨p.s, 17, none⟩ = some (.int .i64 0) := by have z := hs8.cell 17; simpa [stCells, z1, z2, z3] using z
  have q18 : w8.cell? ⟨p.s, 18, none⟩ = some (.int .i64 0) := by have z := hs8.cell 18; simpa [stCells, z1, z2, z3] using z
  have q19 : w8.cell? ⟨p.s, 19, none⟩ = some (.int .i64 0) := by have z := hs8.cell 19; simpa [stCells, z1, z2, z3] using z
  have hva := ve_apply0
  unfold zVer firstV at hva
  have HAT8 := Lib.hid hat8
  have HB8 := Lib.hid hb8
  have HVA := Lib.hid hva
  clear hat8 hb8 hva
  clear hs8 hd8 hk8 x0 x1 x2 x3 x4 y0 y12
  have hlt1 : p.s < w8.heap.size := HAT8.out.blk.lt
  have hlt2 : b9 < w8.heap.size := HB8.out.lt
  go_wp2_with fail
  go_cut [5, 13] (fun er a wx => er = .int .i64 0 ∧ ∃ b13, a = .pointer (some ⟨b13, 0, none⟩) ∧ Blk wx b13 62 #[.slice none 0 0, .slice none 0 0, .slice none 0 0, .slice none 0 0, .int .i64 1, .int .i64 2, .int .i64 0] ∧ w8.heap.size ≤ b13 ∧ Chg (fun _ => False) w8 wx)
  case first =>
    go_region_with (first | (go_at_call 72; refine (HVA.out _).mono ?_; rintro e w9 ⟨rfl, hc9⟩; have HC9 := Lib.hid hc9; (first | ((first | have hz := Blk.chg (Blk.drew (Blk.new w8 62 #[.slice none 0 0, .slice none 0 0, .slice none 0 0, .slice none 0 0, .int .i64 0, .int .i64 0, .int .i64 0])) hc9 (fun f => f) | have hz := Blk.chg (Blk.new w8.drew 62 #[.slice none 0 0, .slice none 0 0, .slice none 0 0, .slice none 0 0, .int .i64 0, .int .i64 0, .int .i64 0]) hc9 (fun f => f)); have m0 : w9.cell? ⟨w8.heap.size, 0, none⟩ = some (.slice none 0 0) := hz.cell 0; have n0 := hz.frozen 0; have m1 : w9.cell? ⟨w8.heap.size, 1, none⟩ = some (.slice none 0 0) := hz.cell 1; have n1 := hz.frozen 1; have m2 : w9.cell? ⟨w8.heap.size, 2, none⟩ = some (.slice none 0 0) := hz.cell 2; have n2 := hz.frozen 2; have m3 : w9.cell? ⟨w8.heap.size, 3, none⟩ = some (.slice none 0 0) := hz.cell 3; have n3 := hz.frozen 3; have m4 : w9.cell? ⟨w8.heap.size, 4, none⟩ = some (.int .i64 0) := hz.cell 4; have n4 := hz.frozen 4; have m5 : w9.cell? ⟨w8.heap.size, 5, none⟩ = some (.int .i64 0) := hz.cell 5; have n5 := hz.frozen 5; have m6 : w9.cell? ⟨w8.heap.size, 6, none⟩ = some (.int .i64 0) := hz.cell 6; have n6 := hz.frozen 6; have o0 : w9.setCell ⟨w8.heap.size, 0, none⟩ (.slice none 0 0) = w9 := set_self hz 0 _ rfl; have o1 : w9.setCell ⟨w8.heap.size, 1, none⟩ (.slice none 0 0) = w9 := set_self hz 1 _ rfl; have o2 : w9.setCell ⟨w8.heap.size, 2, none⟩ (.slice none 0 0) = w9 := set_self hz 2 _ rfl; have o3 : w9.setCell ⟨w8.heap.size, 3, none⟩ (.slice none 0 0) = w9 := set_self hz 3 _ rfl; have hz2 := (hz.set_ 4 (.int .i64 1)).set_ 5 (.int .i64 2); have o6 : ((w9.setCell ⟨w8.heap.size, 4, none⟩ (.int .i64 1)).setCell ⟨w8.heap.size, 5, none⟩ (.int .i64 2)).setCell ⟨w8.heap.size, 6, none⟩ (.int .i64 0) = (w9.setCell ⟨w8.heap.size, 4, none⟩ (.int .i64 1)).setCell ⟨w8.heap.size, 5, none⟩ (.int .i64 2) := set_self hz2 6 _ rfl; have HZ := Lib.hid hz2; clear hz hz2) | skip); clear hc9))
    all_goals
      have hc89 := HC9.out
      have hc8 : Chg (fun _ => False) w8 w9 := Chg.then cgS hc89
      go_wp2_with fail
      go_meet
      first
        | exact ⟨rfl, _, rfl, HZ.out, Nat.le_refl _, Chg.setCell (Chg.setCell hc8 (by intro h; simp at h) _) (by intro h; simp at h) _⟩
        | exact ⟨rfl, _, rfl, Blk.new w9 _ _, hc8.size, hc8.alloc _⟩
  case rest =>
    obtain ⟨rfl, b13, rfl, hb13, hs13, hc10⟩ := hcut
    have hat10 := HAT8.out.grow hc10
    obtain ⟨Y10, hY10⟩ : ∃ Y10 : Nat → Prop, Y10 = fun k => Y7 k ∨ (w8.heap.size ≤ k ∧ k < wc.heap.size) := ⟨_, rfl⟩
    rw [← hY10] at hat10
    have hYb : Y10 b13 := by rw [hY10]; exact .inr ⟨hs13, hb13.lt⟩
    have hYYc : ∀ k, Y k → Y10 k := fun k e => by rw [hY10]; exact .inl (hYY7 k e)
    have hb9 := HB8.out.chg hc10 (by simp)
    have hst := st_start0 w0 wc p Y10 F _ hat10 ht 1000 (by omega) HF.out.p2 z1 z2 z3 z4 z5 HF.out.c
    unfold firstV at hst
    have hne : b13 ≠ p.s := fun e => hb13.ne_ hat10.blk (by decide) e
    have hne2 : b13 ≠ p.b := fun e => hb13.ne_ hat10.cache.bud.blk (by decide) e
    have x0 := hb9.cell 0
    have x1 := hb9.cell 1
    have x2 := hb9.cell 2
    have x3 := hb9.cell 3
    have x4 := hb9.cell 4
    simp at x0 x1 x2 x3 x4
    have y0 := hb13.cell 0
    have y1 := hb13.cell 1
    have y2 := hb13.cell 2
    have y3 := hb13.cell 3
    have y4 := hb13.cell 4
    have y5 := hb13.cell 5
    have y6 := hb13.cell 6
    simp at y0 y1 y2 y3 y4 y5 y6
    have HST := Lib.hid hst
    have HB13 := Lib.hid hb13
    have HYB := Lib.hid hYb
    have HYYC := Lib.hid hYYc
    clear hst hb13 hYb hYYc
    clear hat10 hb9 hc10 hY10 q13 q14 q15 q16 q17 q18 q19 u0 u1 u2 u3 u4 u5
    go_wp2_with fail
    refine HST.out.mono ?_
    rintro e w11 ⟨rfl, hat11, hk11⟩
    have hb11 := HB13.out.kept hk11 ⟨HYB.out, hne⟩
    have hfo := st_forget w0 w11 p Y10 F _ hat11
    have HFO := Lib.hid hfo
    have HB11 := Lib.hid hb11
    clear hfo hb11
    clear hat11 hk11 x0 x1 x2 x3 x4 y0 y1 y2 y3 y4 y5 y6
    go_wp2_with fail
    refine HFO.out.mono ?_
    rintro e w12 ⟨rfl, ⟨p', Y', e1, e2, e3, hYc, hat12⟩, hc12⟩
    have hb12 := HB11.out.chg hc12 (by rintro (e | e); exact hne e; exact hne2 e)
    have hb13Y : Y' b13 := hYc _ HYB.out
    have hYY' : ∀ k, Y k → Y' k := fun k e => hYc k (HYYC.out k e)
    have y0 := hat12.blk.cell 0
    have y20 := hat12.blk.cell 20
    rw [e1] at y0 y20
    simp [stCells, forgetS, startS, z4] at y0 y20
    have x0 := hb12.cell 0
    have x1 := hb12.cell 1
    have x2 := hb12.cell 2
    have x3 := hb12.cell 3
    have x4 := hb12.cell 4
    have x5 := hb12.cell 5
    have x6 := hb12.cell 6
    simp at x0 x1 x2 x3 x4 x5 x6
    have hcl0 := fun W (hW : Chg (fun _ => False) w12 W) => ma_clean 0 nilL (fun _ => []) 1 2 0 p'.d (ldC S.D).2 1000 (by omega) HF.out.p3 Y' w0 W (hat12.disk.same hW) ht he (nil_ver W) (fun i hi k e => (nilL_own e).elim) (fun i hi => by simp)
    unfold nilL at hcl0
    obtain ⟨r4, hr4⟩ : ∃ r4, ldD S.D = r4 := ⟨_, rfl⟩
    have hr4' : cleanM (fun nm => needM nm 0 1 (filesOf (flatF fun x => []))) (ldC S.D).2 = r4 := hr4
    rw [hr4'] at hcl0
    have hcl := hcl0
    have hca : r4.1 = 0 := by rw [← hr4]; exact HF.out.d
    have hk13 : ∀ W W', Chg (fun _ => False) w12 W → DY w0 W' p'.d r4.2 Y' → Kept Y' W W' → StAt w0 W' p' Y' F (loadS S) ∧ Blk W' b13 62 #[.slice none 0 0, .slice none 0 0, .slice none 0 0, .slice none 0 0, .int .i64 1, .int .i64 2, .int .i64 0] := fun W W' hW hd hk =>
      ⟨by have z := (hat12.same hW).kept hk hd; rw [← hr4] at z; exact z, (hb12.chg hW (by simp)).kept hk hb13Y⟩
    have hkd : ∀ w', StAt w0 w' p' Y' F (loadS S) ∧ Blk w' b13 62 #[.slice none 0 0, .slice none 0 0, .slice none 0 0, .slice none 0 0, .int .i64 1, .int .i64 2, .int .i64 0] → w'.cell? ⟨p.s, 0, none⟩ = some (.pointer (some ⟨p'.d, 0, none⟩)) ∧ w'.cell? ⟨p.s, 20, none⟩ = some (.int .i64 0) ∧ w'.cell? ⟨b13, 0, none⟩ = some (.slice none 0 0) ∧ w'.cell? ⟨b13, 1, none⟩ = some (.slice none 0 0) ∧ w'.cell? ⟨b13, 2, none⟩ = some (.slice none 0 0) ∧ w'.cell? ⟨b13, 3, none⟩ = some (.slice none 0 0) ∧ w'.cell? ⟨b13, 4, none⟩ = some (.int .i64 1) ∧ w'.cell? ⟨b13, 5, none⟩ = some (.int .i64 2) ∧ w'.cell? ⟨b13, 6, none⟩ = some (.int .i64 0) := fun w' ⟨ha, hb⟩ => ⟨by have z := ha.blk.cell 0; rw [e1] at z; exact z, by have z := ha.blk.cell 20; rw [e1] at z; simpa [stCells, loadS, forgetS, z4] using z, hb.cell 0, hb.cell 1, hb.cell 2, hb.cell 3, hb.cell 4, hb.cell 5, hb.cell 6⟩
    have HCL := Lib.hid hcl
    have HK13 := Lib.hid hk13
    have HKD := Lib.hid hkd
    have E1 := Lib.hid e1
    have E2 := Lib.hid e2
    have E3 := Lib.hid e3
    clear hcl hk13 hkd e1 e2 e3
    clear hat12 hb12 hc12 hcl0 hr4 hr4'
    go_wp2_with fail
    go_region_held3 (fun w' => w'.cell? ⟨p.s, 0, none⟩ = some (.pointer (some ⟨p'.d, 0, none⟩)) ∧ w'.cell? ⟨p.s, 20, none⟩ = some (.int .i64 0) ∧ w'.cell? ⟨b13, 0, none⟩ = some (.slice none 0 0) ∧ w'.cell? ⟨b13, 1, none⟩ = some (.slice none 0 0) ∧ w'.cell? ⟨b13, 2, none⟩ = some (.slice none 0 0) ∧ w'.cell? ⟨b13, 3, none⟩ = some (.slice none 0 0) ∧ w'.cell? ⟨b13, 4, none⟩ = some (.int .i64 1) ∧ w'.cell? ⟨b13, 5, none⟩ = some (.int .i64 2) ∧ w'.cell? ⟨b13, 6, none⟩ = some (.int .i64 0))
      ((go_split_ands; (try dsimp only); (repeat' with_reducible apply And.intro) <;> (repeat (first | with_reducible assumption | with_reducible refine ky_drew ?_ | with_reducible refine ky_drewN _ ?_))))
      (first | (go_at_call 66; refine (HCL.out _ cgS).mono ?_; rintro e w14 ⟨rfl, hd14, hk14⟩; have hq14 := HK13.out _ w14 cgS hd14 hk14; obtain ⟨u0, u1, u2, u3, u4, u5, u6, u7, u8⟩ := HKD.out w14 hq14))
    have hfin : SPostY w0 p Y F (loadS S) w14 := ⟨p', Y', E1.out, E2.out, E3.out, hYY', hq14.1⟩
    have HFIN := Lib.hid hfin
    clear hfin
    clear hd14 hk14 hq14
    go_wp2_with fail
    go_ret
    exact ⟨rfl, HFIN.out⟩
end Go.Proofs.YtljabmkmngbhkaaGreatDoor
