/-
  Commit in memory: no flush.
-/
import Derived.Test.YtljabmkmngbhkaaGreatDoorZStoC
import Derived.Deep.RegionHeld3
namespace Go.Proofs.YtljabmkmngbhkaaGreatDoor
open Go.RowKit
set_option linter.unusedVariables false
set_option linter.unusedSimpArgs false

section
variable {w0 w w' : World} {p : StP} {Y : Nat → Prop} {F : CfgV} {S : StV}
theorem StAt.same (h : StAt w0 w p Y F S) (hc : Chg (fun _ => False) w w') : StAt w0 w' p Y F S :=
  { h with
    blk := h.blk.chg hc (by simp)
    disk := h.disk.same hc
    cache := h.cache.same hc
    skip := h.skip.same hc
    snaps := h.snaps.same hc }
/-- The budget holds something else. -/
theorem StAt.budget (h : StAt w0 w p Y F S) {B' : Bud} (hc : Chg (FootC p.c p.b p.m []) w w') (hca : CacheAt w' p.c p.b p.m [] B') : StAt w0 w' p Y F { S with B := B' } :=
  { h with
    blk := h.blk.chg hc (cache_off h.cache h.blk (by decide))
    disk := (h.disk.other hc fun k _ e => h.foot k (.inr (.inl e))).mono fun k e => .inl e
    cache := hca
    skip := h.skip.chg hc (fun k hk e => by
      obtain ⟨t, cs, hb, ht⟩ := h.skip.foot_typed hk
      exact cache_off h.cache hb (by rcases ht with rfl | rfl | rfl <;> decide) e) (by simp)
    snaps := h.snaps.chg hc fun k hk e => by
      obtain ⟨cs, hb⟩ := h.snaps.typed hk
      have hb : Blk w k 2 cs := hb
      exact cache_off h.cache hb (by decide) e }
/-- The disk has something else. -/
theorem StAt.kept (h : StAt w0 w p Y F S) {D' : DiskV} (hk : Kept Y w w') (hd : DY w0 w' p.d D' Y) : StAt w0 w' p Y F { S with D := D' } :=
  { h with
    blk := h.blk.kept hk (h.foot _ (.inl rfl)).1
    disk := hd
    cache := h.cache.chg hk fun k e hn => hn (h.foot k (.inr (.inl e))).1
    skip := h.skip.chg hk (fun k e hn => hn (h.foot k (.inr (.inr (.inl e)))).1) (by simp)
    snaps := h.snaps.kept hk fun k e => (h.foot k (.inr (.inr (.inr e)))).1 }
end
theorem shrink_nil (B : Bud) (n : Int) (h : n ≤ B.l - B.u) : shrink [] B n = (true, [], B) := by
  have hp : pick n (B.l - B.u) [] = ([], B.l - B.u) := rfl
  unfold shrink
  rw [hp, if_neg (by simp only; omega)]
  rfl
set_option maxRecDepth 100000 in
set_option maxHeartbeats 4000000 in
theorem st_reserve (w0 w : World) (p : StP) (Y : Nat → Prop) (F : CfgV) (S : StV) (h : StAt w0 w p Y F S) (n : Int) (h0 : 0 ≤ n) (hn : n ≤ S.B.l - S.B.u) :
    Calls Tryz.prog 38 #[.pointer (some ⟨p.s, 0, none⟩), .int .i64 0, .int .i64 n] w fun e w' => e = .returned (.int .i64 0) ∧ StAt w0 w' p Y F { S with B := (S.B.reserve 0 n).2 } ∧ Chg (FootC p.c p.b p.m []) w w' := by
  have hs := cache_shrink p.c p.b p.m [] S.B n w h.cache
  rw [shrink_nil _ _ hn] at hs
  have y11 := h.blk.cell 11
  simp [stCells] at y11
  have hr : (S.B.reserve 0 n).1 = 0 := by
    unfold Bud.reserve
    rw [if_neg (by omega), if_neg (by omega)]
  have hst := fun w1 (hc : CacheAt w1 p.c p.b p.m [] S.B) (hg : Chg (FootC p.c p.b p.m []) w w1) => bud_reserve p.b S.B 0 n w1 hc.bud
  rw [hr] at hst
  have h10 := fun w1 (hg : Chg (FootC p.c p.b p.m []) w w1) => (h.blk.chg hg (cache_off h.cache h.blk (by decide))).cell 10
  simp [stCells] at h10
  have HS := Lib.hid hs
  have H := Lib.hid h
  have HST := Lib.hid hst
  have H10 := Lib.hid h10
  clear hs h hst h10
  go_enter Tryz.func38, Tryz.ntmps38
  go_wp2_with fail
  refine HS.out.mono ?_
  rintro e w1 ⟨rfl, hca, hc1⟩
  have y10 := H10.out w1 hc1
  have hR := HST.out w1 hca hc1
  have HR := Lib.hid hR
  have HCA := Lib.hid hca
  have HC1 := Lib.hid hc1
  clear hR hca hc1
  clear y11
  go_wp2_with fail
  refine HR.out.mono ?_
  rintro e w2 ⟨rfl, hb2, hc2⟩
  have hc02 : Chg (FootC p.c p.b p.m []) w w2 := HC1.out.trans hc2 fun k hk e => .inr (.inl e)
  have hfin : StAt w0 w2 p Y F { S with B := (S.B.reserve 0 n).2 } ∧ Chg (FootC p.c p.b p.m []) w w2 :=
    ⟨H.out.budget hc02 (cache_change HCA.out hb2 hc2 (reserve_b _ _)), hc02⟩
  have HFIN := Lib.hid hfin
  clear hfin
  clear hb2 hc2 hc02
  go_wp2_with fail
  go_ret
  exact ⟨rfl, HFIN.out⟩
/-- The disk behind a Commit. -/
def logD (S : StV) (m : Nat) (l : List EntryV) : Int × DiskV := appendW S.D (logN m) ⟨(putIs l).toArray⟩
def commitS (S : StV) (m : Nat) (l : List EntryV) : StV := putS { S with B := (S.B.reserve 0 (costI l)).2, D := (logD S m l).2 } l
theorem ky_drewN {w : World} {p : Addr} {v : Value} (q : Nat) (h : w.cell? p = some v) : (w.drewN q).cell? p = some v := ky_chg (Chg.drewN (Chg.refl _ _) q) h
set_option maxRecDepth 100000 in
set_option maxHeartbeats 4000000 in
theorem ok_writes (w : World) (s : Nat) (h30 : w.cell? ⟨s, 30, none⟩ = some (.bool false)) (h29 : w.cell? ⟨s, 29, none⟩ = some (.bool false)) : Calls Tryz.prog 30 #[.pointer (some ⟨s, 0, none⟩)] w fun e w' => e = .returned (.int .i64 0) ∧ w = w' := by
  go_enter Tryz.func30, Tryz.ntmps30
  go_wp2
  go_ret
  exact ⟨rfl, rfl⟩
def roomS (F : CfgV) (S : StV) : Int := min F.memory (S.B.l - S.B.u + S.B.a + S.B.b)
set_option maxRecDepth 100000 in
set_option maxHeartbeats 4000000 in
theorem st_commit (w0 w : World) (p : StP) (Y : Nat → Prop) (F : CfgV) (S : StV) (h : StAt w0 w p Y F S) (v : Value) (l : List EntryV) (hv : Lst entC w v l) (hvY : ∀ k, v.ownBlock = some k → Y k) (hl : l.length ≤ 64) (hl0 : 0 < l.length) (hg : ∀ e ∈ l, goodI e = 0 ∧ EntFit e) (hN : S.L.length ≤ 1000000) (hq : S.seq ≤ 999999999000)
    (hd : S.dead = false) (hcl : S.closed = false) (m pm : Nat) (hm : m < 10) (hlog : S.log = (m : Int)) (hP : PSm pm S.D) (hpm : pm ≤ 10000) (hbz : (putIs l).length ≤ 1000000000) (hsz : sizeE l ≤ 1000000000000)
    (hroom : costI l + S.size ≤ roomS F S) (hres : costI l ≤ S.B.l - S.B.u) (happ : (logD S m l).1 = 0) :
    Calls Tryz.prog 6 #[.pointer (some ⟨p.s, 0, none⟩), v] w fun e w' => e = .returned (.tuple #[.int .i64 (S.seq + (l.length : Int)), .int .i64 0]) ∧ SPost w0 p F (commitS S m l) w' := by
  obtain ⟨a, cap, rfl, _, _, _⟩ := ent_form hv
  have y30 := h.blk.cell 30
  have y29 := h.blk.cell 29
  simp [stCells, hd, hcl] at y30 y29
  have hB := h.cache.bud.good
  obtain ⟨bl0, bl1, ba0, bb0, bc0, bd0, bu0, buh, bhl⟩ := hB
  have hwr := ok_writes w p.s y30 y29
  have hput := ba_put (.slice a l.length cap) l hl hg w hv
  have hcost := fun W (hW : Chg (fun _ => False) w W) => st_cost (.slice a l.length cap) l hsz (by omega) W (hv.same hW)
  have hat := fun W (hW : Chg (fun _ => False) w W) => h.same hW
  have hle := fun W (hW : Chg (fun _ => False) w W) => bud_left p.b S.B W (hat W hW).cache.bud
  have hof := fun W (hW : Chg (fun _ => False) w W) (k : Int) => bud_of p.b S.B k W (hat W hW).cache.bud
  have hss := fun W (hW : Chg (fun _ => False) w W) => sk_size p.l p.hb (.slice none 0 0) [] p.N S.size W (hat W hW).skip
  have hc0 : 0 ≤ costI l := by unfold costI; omega
  have hre := fun W (hW : Chg (fun _ => False) w W) => st_reserve w0 W p Y F S (hat W hW) (costI l) hc0 hres
  have e0 : S.B.of 0 = S.B.a := rfl
  have e1 : S.B.of 1 = S.B.b := rfl
  have ad1 := IntWalk.i64_in (S.B.l - S.B.u + S.B.a) (by omega)
  have ad2 := IntWalk.i64_in (S.B.l - S.B.u + S.B.a + S.B.b) (by omega)
  have hcl := fun W (hW : Chg (fun _ => False) w W) => (h.blk.chg hW (by simp))
  have y2 := h.blk.cell 2
  have y10 := h.blk.cell 10
  have y12 := h.blk.cell 12
  simp [stCells] at y2 y10 y12
  obtain ⟨ci, hci⟩ : ∃ ci, costI l = ci := ⟨_, rfl⟩
  obtain ⟨rm, hrm⟩ : ∃ rm, min F.memory (S.B.l - S.B.u + S.B.a + S.B.b) = rm := ⟨_, rfl⟩
  rw [hci] at hcost hre hroom
  unfold roomS at hroom
  rw [hrm] at hroom
  obtain ⟨sz0, sz1⟩ := h.skip.sz
  have hng : ¬ (rm < ci) := by omega
  have hng2 : ¬ (rm < ci + S.size) := by omega
  have ad3 := IntWalk.i64_in (ci + S.size) (by omega)
  have HWR := Lib.hid hwr
  have HPUT := Lib.hid hput
  have HCOST := Lib.hid hcost
  have HAT := Lib.hid hat
  have HLE := Lib.hid hle
  have HOF := Lib.hid hof
  have HSS := Lib.hid hss
  have HRE := Lib.hid hre
  have HCL := Lib.hid hcl
  have H := Lib.hid h
  have HCI := Lib.hid hci
  have HV := Lib.hid hv
  have HG := Lib.hid hg
  clear hwr hput hcost hat hle hof hss hre hcl h hci hv hg
  clear bl0 bl1 ba0 bb0 bc0 bd0 bu0 buh bhl y30 y29
  go_enter Tryz.func6, Tryz.ntmps6
  go_wp2_with fail
  refine HWR.out.mono ?_
  rintro e w1 ⟨rfl, rfl⟩
  go_wp2_with fail
  refine HPUT.out.mono ?_
  rintro e w1 ⟨rfl, hc1⟩
  replace y2 := ky_chg hc1 y2
  replace y10 := ky_chg hc1 y10
  replace y12 := ky_chg hc1 y12
  have HC1 := Lib.hid hc1
  clear hc1
  go_wp2_with fail
  refine (HCOST.out _ HC1.out).mono ?_
  rintro e w2 ⟨rfl, hc2⟩
  replace y2 := ky_chg hc2 y2
  replace y10 := ky_chg hc2 y10
  replace y12 := ky_chg hc2 y12
  replace hc2 := HC1.out.then hc2
  have HC2 := Lib.hid hc2
  clear hc2
  clear HC1
  go_wp2_with fail
  go_region_held3 (fun w' => w'.cell? ⟨p.s, 2, none⟩ = some (.int .i64 F.memory) ∧ w'.cell? ⟨p.s, 10, none⟩ = some (.pointer (some ⟨p.b, 0, none⟩)) ∧ w'.cell? ⟨p.s, 12, none⟩ = some (.pointer (some ⟨p.l, 0, none⟩)) ∧ Chg (fun _ => False) w w')
    ((go_split_ands; (try dsimp only); (repeat' with_reducible apply And.intro) <;> (repeat (first | with_reducible assumption | with_reducible exact HC2.out | with_reducible refine ky_drew ?_ | with_reducible refine ky_drewN _ ?_ | with_reducible refine Chg.drew ?_ | with_reducible refine Chg.drewN ?_ _))))
    (first | (go_at_call 33; refine (HLE.out _ (by go_split_ands; first | assumption | exact Chg.drew (by assumption))).mono ?_; rintro r w6 ⟨rfl, q6, rfl⟩) | (go_at_call 34; refine (HOF.out _ (by go_split_ands; first | assumption | exact Chg.drew (by assumption)) _).mono ?_; rintro r w7 ⟨rfl, rfl⟩))
  obtain ⟨w3, hw3⟩ : ∃ w3, w3 = w2.drewN (1 + q6) := ⟨_, rfl⟩
  have hc3 : Chg (fun _ => False) w w3 := by rw [hw3]; exact HC2.out.drewN _
  have y12 : w3.cell? ⟨p.s, 12, none⟩ = some (.pointer (some ⟨p.l, 0, none⟩)) := by rw [hw3]; exact ky_drewN _ y12
  rw [← hw3]
  have HC3 := Lib.hid hc3
  clear hc3
  clear hw3 y2 y10 HC2
  go_wp2_with fail
  refine (HSS.out _ HC3.out).mono ?_
  rintro e w4 ⟨rfl, rfl⟩
  go_wp2_with fail
  refine (HRE.out _ HC3.out).mono ?_
  rintro e w4 ⟨rfl, hat4, hcr⟩
  have hv4 : Lst entC w4 (.slice a l.length cap) l := (HV.out.same HC3.out).chg hcr fun k hk => by
    obtain ⟨cs, hb⟩ := (HV.out.same HC3.out).typed hk
    have hb : Blk w3 k 41 cs := hb
    exact cache_off (H.out.same HC3.out).cache hb (by decide)
  have y0 := hat4.blk.cell 0
  have y17 := hat4.blk.cell 17
  simp [stCells, hlog] at y0 y17
  have hwal := fun W (hW : Chg (fun _ => False) w4 W) => wal_append m pm hm ⟨(putIs l).toArray⟩ (by show (putIs l).toArray.size ≤ _; simpa using hbz) p.d S.D Y w0 W hP hpm (hat4.disk.same hW)
  have hkp : ∀ W W', Chg (fun _ => False) w4 W → Kept Y W W' → W'.cell? ⟨p.s, 0, none⟩ = some (.pointer (some ⟨p.d, 0, none⟩)) ∧ W'.cell? ⟨p.s, 17, none⟩ = some (.int .i64 (m : Int)) := fun W W' hW hk =>
    ⟨hk.cell (hat4.foot _ (.inl rfl)).1 (ky_chg hW y0), hk.cell (hat4.foot _ (.inl rfl)).1 (ky_chg hW y17)⟩
  have hnx : ∀ W w5, Chg (fun _ => False) w4 W → DY w0 w5 p.d (appendW S.D (logN m) ⟨(putIs l).toArray⟩).2 Y → Kept Y W w5 → StAt w0 w5 p Y F { { S with B := (S.B.reserve 0 ci).2 } with D := (logD S m l).2 } ∧ Lst entC w5 (.slice a l.length cap) l := fun W w5 hW hd hk =>
    ⟨(hat4.same hW).kept hk hd, (hv4.same hW).kept hk hvY⟩
  have happ2 : (appendW S.D (logN m) ⟨(putIs l).toArray⟩).1 = 0 := happ
  have HWAL := Lib.hid hwal
  have HKP := Lib.hid hkp
  have HNX := Lib.hid hnx
  clear hwal hkp hnx
  clear hat4 hcr hv4 y12
  go_wp2_with fail
  go_region_held3 (fun w' => w'.cell? ⟨p.s, 0, none⟩ = some (.pointer (some ⟨p.d, 0, none⟩)) ∧ w'.cell? ⟨p.s, 17, none⟩ = some (.int .i64 (m : Int)))
    ((go_split_ands; (try dsimp only); (repeat' with_reducible apply And.intro) <;> (repeat (first | with_reducible assumption | with_reducible refine ky_drew ?_ | with_reducible refine ky_drewN _ ?_))))
    (first | (go_at_call 39; refine (HWAL.out _ cgS).mono ?_; rintro e w5 ⟨rfl, hd5, hk5⟩; obtain ⟨u0, u17⟩ := HKP.out _ w5 cgS hk5; have hn5 := HNX.out _ w5 cgS hd5 hk5))
  obtain ⟨hat5, hv5⟩ := hn5
  have hp5 := st_put w0 w5 p Y F _ hat5 _ l hv5 hl HG.out hN hq
  have HP5 := Lib.hid hp5
  clear hp5
  clear hd5 hk5 u0 u17 hat5 hv5
  go_wp2_with fail
  refine HP5.out.mono ?_
  rintro e w6 ⟨rfl, hS6⟩
  obtain ⟨p', Y', hps, hpb, hat6⟩ := hS6
  have y28 := hat6.blk.cell 28
  rw [hps] at y28
  simp [stCells, putS] at y28
  have hfin : SPost w0 p F (commitS S m l) w6 := ⟨p', Y', hps, hpb, by unfold commitS; rw [HCI.out]; exact hat6⟩
  have HFIN := Lib.hid hfin
  clear hfin
  clear hat6 hpb
  go_wp2_with fail
  go_ret2
  exact ⟨rfl, HFIN.out⟩
end Go.Proofs.YtljabmkmngbhkaaGreatDoor
