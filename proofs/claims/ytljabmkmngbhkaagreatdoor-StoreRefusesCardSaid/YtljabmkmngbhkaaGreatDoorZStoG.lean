/-
  Nothing is in memory any more; a first manifest.
-/
import Derived.Test.YtljabmkmngbhkaaGreatDoorZStoF
import Derived.Test.YtljabmkmngbhkaaGreatDoorZMg37
import Derived.Test.YtljabmkmngbhkaaGreatDoorZManJ
import Derived.RegionTactic
import Derived.BigRegion
import Derived.Deep.RegionHeld3
namespace Go.Proofs.YtljabmkmngbhkaaGreatDoor
open Go.RowKit
set_option linter.unusedVariables false
set_option linter.unusedSimpArgs false

/-- What a call leaves: the same store beside the blocks of Y. -/
def SPostY (w0 : World) (p : StP) (Y : Nat → Prop) (F : CfgV) (S : StV) (w' : World) : Prop := ∃ p' Y', p'.s = p.s ∧ p'.b = p.b ∧ p'.d = p.d ∧ (∀ k, Y k → Y' k) ∧ StAt w0 w' p' Y' F S
def forgetS (S : StV) : StV := { S with L := [], size := 0, B := (S.B.change 0 0).2 }
theorem forget_fin {w0 w w1 w2 w3 : World} {p : StP} {Y : Nat → Prop} {F : CfgV} {S : StV} {l' hb' : Nat} (h : StAt w0 w p Y F S) (hl : w.heap.size ≤ l') (hh : w.heap.size ≤ hb') (hsk : SkipAt w1 l' hb' (.slice none 0 0) [] [] 0) (hc1 : Chg (fun _ => False) w w1)
    (hw2 : w2 = w1.setCell ⟨p.s, 12, none⟩ (.pointer (some ⟨l', 0, none⟩))) (hbud : BudAt w3 p.b (forgetS S).B) (hc3 : Chg (fun k => k = p.b) w2 w3) : SPostY w0 p Y F (forgetS S) w3 ∧ Chg (fun k => k = p.s ∨ k = p.b) w w3 := by
  have h1 := h.same hc1
  have hc2 : Chg (fun k => k = p.s) w1 w2 := by rw [hw2]; exact Chg.setCell (S := fun k => k = p.s) (Chg.refl _ _) (p := ⟨p.s, 12, none⟩) (fun _ => rfl) _
  have hs2 := h1.blk.set_ 12 (.pointer (some ⟨l', 0, none⟩))
  rw [← hw2] at hs2
  have hC : Chg (fun k => k = p.s ∨ k = p.b) w1 w3 := (hc2.mono fun k _ e => .inl e).trans hc3 fun k _ e => .inr e
  have hsb : p.s ≠ p.b := h.blk.ne_ h.cache.bud.blk (by decide)
  have hCw : Chg (fun k => k = p.s ∨ k = p.b) w w3 := (hc1.mono fun _ _ f => f.elim).trans hC fun _ _ e => e
  have hdy := h.disk.other hCw fun k _ e => by
    rcases e with rfl | rfl
    · exact h.foot _ (.inl rfl)
    · exact h.foot _ (.inr (.inl (.inr (.inl rfl))))
  have hca : CacheAt w2 p.c p.b p.m [] S.B := h1.cache.chg hc2 fun k hk e => by subst e; exact cache_off h1.cache h1.blk (by decide) hk
  have hlow := h.disk.frame.size
  have hz := hc1.size
  have hlt := hsk.lt
  refine ⟨⟨{ p with l := l', hb := hb', N := [] }, fun k => Y k ∨ (w.heap.size ≤ k ∧ k < w3.heap.size), rfl, rfl, rfl, fun k e => .inl e, ?_⟩, hCw⟩
  have hz3 := hC.size
  exact {
    blk := (show Blk w2 p.s 86 (stCells p.d p.b p.c l' p.sv F (forgetS S)) by simpa [stCells, forgetS] using hs2).chg hc3 hsb
    disk := hdy
    cache := cache_change hca hbud hc3 (change_b _ _)
    skip := hsk.chg hC (fun k hk e => by
      rcases e with rfl | rfl
      · exact hsk.off h1.blk (by decide) hk
      · exact hsk.off h1.cache.bud.blk (by decide) hk) (by simp)
    ent := rfl
    snaps := h1.snaps.chg hC fun k hk e => by
      obtain ⟨cs, hb⟩ := h1.snaps.typed hk
      have hb : Blk w1 k 2 cs := hb
      rcases e with rfl | rfl
      · exact hb.ne_ h1.blk (by decide) rfl
      · exact hb.ne_ h1.cache.bud.blk (by decide) rfl
    foot := fun k hk => by
      rcases hk with e | e | e | e
      · exact ⟨.inl (h.foot k (.inl e)).1, (h.foot k (.inl e)).2⟩
      · exact ⟨.inl (h.foot k (.inr (.inl e))).1, (h.foot k (.inr (.inl e))).2⟩
      · have := hlt k e
        rcases e with rfl | rfl | ⟨n, hn, _⟩
        · exact ⟨.inr ⟨hl, by omega⟩, by omega⟩
        · exact ⟨.inr ⟨hh, by omega⟩, by omega⟩
        · cases hn
      · exact ⟨.inl (h.foot k (.inr (.inr (.inr e)))).1, (h.foot k (.inr (.inr (.inr e)))).2⟩
    low := fun m hm => by cases hm
    sq := h.sq
    nw := h.nw }
set_option maxRecDepth 100000 in
set_option maxHeartbeats 4000000 in
theorem st_forget (w0 w : World) (p : StP) (Y : Nat → Prop) (F : CfgV) (S : StV) (h : StAt w0 w p Y F S) :
    Calls Tryz.prog 55 #[.pointer (some ⟨p.s, 0, none⟩)] w fun e w' => e = .returned (.tuple #[]) ∧ SPostY w0 p Y F (forgetS S) w' ∧ Chg (fun k => k = p.s ∨ k = p.b) w w' := by
  have hnew := sk_new w
  have y9 := h.blk.cell 9
  have y12 := h.blk.cell 12
  have f12 := h.blk.frozen 12
  simp [stCells] at y9 y12
  have HNEW := Lib.hid hnew
  have H := Lib.hid h
  clear hnew h
  clear y12 f12
  go_enter Tryz.func55, Tryz.ntmps55
  go_wp2_with fail
  refine HNEW.out.mono ?_
  rintro e w1 ⟨l', hb', rfl, hl, hh, hsk, hc1⟩
  have hb1 := H.out.blk.chg hc1 (by simp)
  have y12 := hb1.cell 12
  have f12 := hb1.frozen 12
  simp [stCells] at y12
  obtain ⟨w2, hw2⟩ : ∃ w2, w2 = w1.setCell ⟨p.s, 12, none⟩ (.pointer (some ⟨l', 0, none⟩)) := ⟨_, rfl⟩
  have hc2 : Chg (fun k => k = p.s) w1 w2 := by rw [hw2]; exact Chg.setCell (S := fun k => k = p.s) (Chg.refl _ _) (p := ⟨p.s, 12, none⟩) (fun _ => rfl) _
  have hs2 := hb1.set_ 12 (.pointer (some ⟨l', 0, none⟩))
  rw [← hw2] at hs2
  have y10 := hs2.cell 10
  simp [stCells] at y10
  have hbu : BudAt w2 p.b S.B := (H.out.cache.bud.chg hc1 (by simp)).chg hc2 (fun e => H.out.cache.bud.blk.ne_ H.out.blk (by decide) e)
  have hch := bud_change p.b S.B 0 0 w2 hbu (by omega)
  have hfin := fun w3 => forget_fin (w3 := w3) H.out hl hh hsk hc1 hw2
  have HCH := Lib.hid hch
  have HFIN := Lib.hid hfin
  have HW2 := Lib.hid hw2
  clear hch hfin hw2
  clear hl hh hsk hc1 hb1 hc2 hs2 hbu
  go_upto_region 1 with fail
  rw [← HW2.out]
  clear y12 f12
  go_wp2_with fail
  refine HCH.out.mono ?_
  rintro e w3 ⟨rfl, hb3, hc3⟩
  have hF := HFIN.out w3 hb3 hc3
  have HFF := Lib.hid hF
  clear hF
  clear hb3 hc3
  go_wp2_with fail
  go_end0
  exact ⟨rfl, HFF.out⟩
/-- Only cells of the store itself are others. -/
theorem StAt.own {w0 w w' : World} {p : StP} {Y : Nat → Prop} {F : CfgV} {S S' : StV} (h : StAt w0 w p Y F S) (hc : Chg (fun k => k = p.s) w w') (hb : Blk w' p.s 86 (stCells p.d p.b p.c p.l p.sv F S')) (e1 : S'.D = S.D) (e2 : S'.B = S.B) (e3 : S'.L = S.L) (e4 : S'.size = S.size) (e5 : S'.snaps = S.snaps) (e6 : S'.seq = S.seq) (e7 : S'.now = S.now) : StAt w0 w' p Y F S' :=
  { blk := hb
    disk := by rw [e1]; exact (h.disk.other hc fun k _ e => h.foot k (.inl e)).mono fun k e => .inl e
    cache := by rw [e2]; exact h.cache.chg hc fun k hk e => by subst e; exact cache_off h.cache h.blk (by decide) hk
    skip := by rw [e4]; exact h.skip.chg hc (fun k hk e => by subst e; exact h.skip.off h.blk (by decide) hk) (by simp)
    ent := by rw [e3]; exact h.ent
    snaps := by
      rw [e5]
      refine h.snaps.chg hc fun k hk e => ?_
      subst e
      obtain ⟨cs, hb⟩ := h.snaps.typed hk
      exact h.blk.ne_ hb (by decide) rfl
    foot := h.foot
    low := by rw [e3, e6]; exact h.low
    sq := by rw [e6]; exact h.sq
    nw := by rw [e7]; exact h.nw }
def V1 : VerV := ⟨fun _ => [], 1, 2, 0⟩
def startS (S : StV) : StV := { S with log := 1, next := 2, D := (startM S.D 0 V1).2 }
theorem v1_at (w : World) : VerAt w (Lv (.slice none 0 0) (.slice none 0 0) (.slice none 0 0) (.slice none 0 0)) V1.lv := fun i hi => by
  match i, hi with
  | 0, _ => exact Lst.nil _ _
  | 1, _ => exact Lst.nil _ _
  | 2, _ => exact Lst.nil _ _
  | 3, _ => exact Lst.nil _ _
theorem v1_fit : EdFit (wholeE V1) := (show EdFit ⟨[], [], 1, 2, 0⟩ from ⟨by unfold In64; decide, by unfold In64; decide, by unfold In64; decide, by simp, by simp, by decide, by decide⟩)
set_option maxRecDepth 100000 in
set_option maxHeartbeats 4000000 in
theorem st_start0 (w0 w : World) (p : StP) (Y : Nat → Prop) (F : CfgV) (S : StV) (h : StAt w0 w p Y F S) (ht : Tab w0) (m : Nat) (hm : m ≤ 9000) (hD : PSm m S.D) (h1 : S.log = 0) (h2 : S.next = 0) (h3 : S.vseq = 0) (h4 : S.man = 0) (h5 : S.told = 0) (h0 : (startM S.D 0 V1).1 = 0) :
    Calls Tryz.prog 73 #[.pointer (some ⟨p.s, 0, none⟩), .int .i64 0, firstV] w fun e w' => e = .returned (.int .i64 0) ∧ StAt w0 w' p Y F (startS S) ∧ Kept (fun k => Y k ∧ k ≠ p.s) w w' := by
  obtain ⟨br, hbr⟩ : ∃ br, w.heap.size = br := ⟨_, rfl⟩
  obtain ⟨w1, hw1⟩ : ∃ w1, w1 = w.alloc (.cells #[.slice none 0 0, .slice none 0 0, .slice none 0 0, .slice none 0 0, .int .i64 1, .int .i64 2, .int .i64 0] 62) := ⟨_, rfl⟩
  have hc1 : Chg (fun _ => False) w w1 := by rw [hw1]; exact (Chg.refl _ _).alloc _
  have b1 : Blk w1 br 62 #[.slice none 0 0, .slice none 0 0, .slice none 0 0, .slice none 0 0, .int .i64 1, .int .i64 2, .int .i64 0] := by rw [hw1, ← hbr]; exact Blk.new w _ _
  obtain ⟨Y1, hY1⟩ : ∃ Y1 : Nat → Prop, Y1 = fun k => Y k ∨ (w.heap.size ≤ k ∧ k < w1.heap.size) := ⟨_, rfl⟩
  have hd1 := h.disk.grow hc1
  rw [← hY1] at hd1
  have hst := fun W (hW : Chg (fun _ => False) w1 W) => ma_start 0 (by omega) (by omega) (.slice none 0 0) (.slice none 0 0) (.slice none 0 0) (.slice none 0 0) V1 p.d S.D m hm hD Y1 w0 W (hd1.same hW) ht (v1_at W) (by decide) v1_fit
  have hsY : Y1 p.s := by rw [hY1]; exact .inl (h.foot _ (.inl rfl)).1
  have hbY : Y1 br := by rw [hY1]; exact .inr ⟨by omega, b1.lt⟩
  have hk1 : ∀ W W', Chg (fun _ => False) w1 W → DY w0 W' p.d (startM S.D 0 V1).2 Y1 → Kept Y1 W W' → (StAt w0 W' p Y F { S with D := (startM S.D 0 V1).2 } ∧ Kept Y w W') ∧ Blk W' br 62 #[.slice none 0 0, .slice none 0 0, .slice none 0 0, .slice none 0 0, .int .i64 1, .int .i64 2, .int .i64 0] := fun W W' hW hd hk =>
    ⟨⟨((h.same hc1).same hW).kept (hk.mono fun k e => by rw [hY1]; exact .inl e) (hd.mono fun k e => by rw [hY1]; exact .inl e), (Kept.of_chg (hc1.then hW)).then (hk.mono fun k e => by rw [hY1]; exact .inl e)⟩, (b1.chg hW (by simp)).kept hk hbY⟩
  have y0 := (h.same hc1).blk.cell 0
  have x0 := b1.cell 0
  have x1 := b1.cell 1
  have x2 := b1.cell 2
  have x3 := b1.cell 3
  have x4 := b1.cell 4
  have x5 := b1.cell 5
  have x6 := b1.cell 6
  simp at x0 x1 x2 x3 x4 x5 x6
  simp [stCells] at y0
  unfold firstV
  have hkc : ∀ W', (StAt w0 W' p Y F { S with D := (startM S.D 0 V1).2 } ∧ Kept Y w W') ∧ Blk W' br 62 #[.slice none 0 0, .slice none 0 0, .slice none 0 0, .slice none 0 0, .int .i64 1, .int .i64 2, .int .i64 0] → W'.cell? ⟨p.s, 0, none⟩ = some (.pointer (some ⟨p.d, 0, none⟩)) ∧ W'.cell? ⟨br, 0, none⟩ = some (.slice none 0 0) ∧ W'.cell? ⟨br, 1, none⟩ = some (.slice none 0 0) ∧ W'.cell? ⟨br, 2, none⟩ = some (.slice none 0 0) ∧ W'.cell? ⟨br, 3, none⟩ = some (.slice none 0 0) ∧ W'.cell? ⟨br, 4, none⟩ = some (.int .i64 1) ∧ W'.cell? ⟨br, 5, none⟩ = some (.int .i64 2) ∧ W'.cell? ⟨br, 6, none⟩ = some (.int .i64 0) := fun W' ⟨⟨ha, _⟩, hb⟩ => ⟨ha.blk.cell 0, hb.cell 0, hb.cell 1, hb.cell 2, hb.cell 3, hb.cell 4, hb.cell 5, hb.cell 6⟩
  have HBR := Lib.hid hbr
  have HW1 := Lib.hid hw1
  have HC1 := Lib.hid hc1
  have HST := Lib.hid hst
  have HK1 := Lib.hid hk1
  have HKC := Lib.hid hkc
  clear hbr hw1 hc1 hst hk1 hkc
  clear h hd1 hY1 b1
  go_enter Tryz.func73, Tryz.ntmps73
  go_upto_region 1 with fail
  rw [← HW1.out]
  rw [HBR.out]
  go_region_held3 (fun w' => w'.cell? ⟨p.s, 0, none⟩ = some (.pointer (some ⟨p.d, 0, none⟩)) ∧ w'.cell? ⟨br, 0, none⟩ = some (.slice none 0 0) ∧ w'.cell? ⟨br, 1, none⟩ = some (.slice none 0 0) ∧ w'.cell? ⟨br, 2, none⟩ = some (.slice none 0 0) ∧ w'.cell? ⟨br, 3, none⟩ = some (.slice none 0 0) ∧ w'.cell? ⟨br, 4, none⟩ = some (.int .i64 1) ∧ w'.cell? ⟨br, 5, none⟩ = some (.int .i64 2) ∧ w'.cell? ⟨br, 6, none⟩ = some (.int .i64 0))
    ((go_split_ands; (try dsimp only); (repeat' with_reducible apply And.intro) <;> (repeat (first | with_reducible assumption | with_reducible refine ky_drew ?_ | with_reducible refine ky_drewN _ ?_))))
    (first | (go_at_call 157; refine (HST.out _ cgS).mono ?_; rintro e w5 ⟨rfl, hd5, hk5⟩; have hq5 := HK1.out _ w5 cgS hd5 hk5; obtain ⟨u0, u1, u2, u3, u4, u5, u6, u7⟩ := HKC.out w5 hq5))
  obtain ⟨⟨hat5, hke⟩, hb5⟩ := hq5
  have hs6 := hat5.blk
  have q13 : w5.cell? ⟨p.s, 13, none⟩ = some (.slice none 0 0) := by have z := hs6.cell 13; simpa [stCells, h1, h2, h3, h4, h5] using z
  have g13 := hs6.frozen 13
  have q14 : w5.cell? ⟨p.s, 14, none⟩ = some (.slice none 0 0) := by have z := hs6.cell 14; simpa [stCells, h1, h2, h3, h4, h5] using z
  have g14 := hs6.frozen 14
  have q15 : w5.cell? ⟨p.s, 15, none⟩ = some (.slice none 0 0) := by have z := hs6.cell 15; simpa [stCells, h1, h2, h3, h4, h5] using z
  have g15 := hs6.frozen 15
  have q16 : w5.cell? ⟨p.s, 16, none⟩ = some (.slice none 0 0) := by have z := hs6.cell 16; simpa [stCells, h1, h2, h3, h4, h5] using z
  have g16 := hs6.frozen 16
  have q17 : w5.cell? ⟨p.s, 17, none⟩ = some (.int .i64 0) := by have z := hs6.cell 17; simpa [stCells, h1, h2, h3, h4, h5] using z
  have g17 := hs6.frozen 17
  have q18 : w5.cell? ⟨p.s, 18, none⟩ = some (.int .i64 0) := by have z := hs6.cell 18; simpa [stCells, h1, h2, h3, h4, h5] using z
  have g18 := hs6.frozen 18
  have q19 : w5.cell? ⟨p.s, 19, none⟩ = some (.int .i64 0) := by have z := hs6.cell 19; simpa [stCells, h1, h2, h3, h4, h5] using z
  have g19 := hs6.frozen 19
  have q20 : w5.cell? ⟨p.s, 20, none⟩ = some (.int .i64 0) := by have z := hs6.cell 20; simpa [stCells, h1, h2, h3, h4, h5] using z
  have g20 := hs6.frozen 20
  have q21 : w5.cell? ⟨p.s, 21, none⟩ = some (.int .i64 0) := by have z := hs6.cell 21; simpa [stCells, h1, h2, h3, h4, h5] using z
  have g21 := hs6.frozen 21
  have hs7 := (hs6.set_ 17 (.int .i64 1)).set_ 18 (.int .i64 2)
  obtain ⟨w7, hw7⟩ : ∃ w7, (w5.setCell ⟨p.s, 17, none⟩ (.int .i64 1)).setCell ⟨p.s, 18, none⟩ (.int .i64 2) = w7 := ⟨_, rfl⟩
  rw [hw7] at hs7
  have k13 : w5.setCell ⟨p.s, 13, none⟩ (.slice none 0 0) = w5 := set_self hs6 13 _ (by simp [stCells, h4, h5])
  have k14 : w5.setCell ⟨p.s, 14, none⟩ (.slice none 0 0) = w5 := set_self hs6 14 _ (by simp [stCells, h4, h5])
  have k15 : w5.setCell ⟨p.s, 15, none⟩ (.slice none 0 0) = w5 := set_self hs6 15 _ (by simp [stCells, h4, h5])
  have k16 : w5.setCell ⟨p.s, 16, none⟩ (.slice none 0 0) = w5 := set_self hs6 16 _ (by simp [stCells, h4, h5])
  have k20 : w5.setCell ⟨p.s, 20, none⟩ (.int .i64 0) = w5 := set_self hs6 20 _ (by simp [stCells, h4, h5])
  have k21 : w5.setCell ⟨p.s, 21, none⟩ (.int .i64 0) = w5 := set_self hs6 21 _ (by simp [stCells, h4, h5])
  have v19 : w7.cell? ⟨p.s, 19, none⟩ = some (.int .i64 0) := by have z := hs7.cell 19; simpa [stCells, h3, h4, h5] using z
  have l19 : w7.setCell ⟨p.s, 19, none⟩ (.int .i64 0) = w7 := set_self hs7 19 _ (by simp [stCells, h3, h4, h5])
  have e19 := hs7.frozen 19
  have v20 : w7.cell? ⟨p.s, 20, none⟩ = some (.int .i64 0) := by have z := hs7.cell 20; simpa [stCells, h3, h4, h5] using z
  have l20 : w7.setCell ⟨p.s, 20, none⟩ (.int .i64 0) = w7 := set_self hs7 20 _ (by simp [stCells, h3, h4, h5])
  have e20 := hs7.frozen 20
  have v21 : w7.cell? ⟨p.s, 21, none⟩ = some (.int .i64 0) := by have z := hs7.cell 21; simpa [stCells, h3, h4, h5] using z
  have l21 : w7.setCell ⟨p.s, 21, none⟩ (.int .i64 0) = w7 := set_self hs7 21 _ (by simp [stCells, h3, h4, h5])
  have e21 := hs7.frozen 21
  have hw7' := hw7
  have HAT5 := Lib.hid hat5
  have HS6 := Lib.hid hs6
  have HS7 := Lib.hid hs7
  have HW7' := Lib.hid hw7'
  have HKE := Lib.hid hke
  clear hat5 hs6 hs7 hw7' hke
  clear hd5 hk5 hb5 x0 x1 x2 x3 x4 x5 x6 y0
  go_wp2_with fail
  go_region
  have hc7 : Chg (fun k => k = p.s) w5 w7 := by rw [← HW7'.out]; exact Chg.setCell (S := fun k => k = p.s) (Chg.setCell (S := fun k => k = p.s) (Chg.refl _ _) (p := ⟨p.s, 17, none⟩) (fun _ => rfl) _) (p := ⟨p.s, 18, none⟩) (fun _ => rfl) _
  have hat7 : StAt w0 w7 p Y F (startS S) := HAT5.out.own hc7 (by simpa [stCells, startS] using HS7.out) rfl rfl rfl rfl rfl rfl rfl
  have hat8 := hat7.same (show Chg (fun _ => False) w7 w7.drew from Chg.drew (Chg.refl _ _))
  have hk7 : Kept (fun k => Y k ∧ k ≠ p.s) w w7 := (HKE.out.mono fun k e => e.1).then (hc7.mono fun k _ e hn => hn.2 e)
  have hk8 : Kept (fun k => Y k ∧ k ≠ p.s) w w7.drew := hk7.then (Kept.of_chg (Chg.drew (Chg.refl _ _)))
  have HAT7 := Lib.hid hat7
  have HAT8 := Lib.hid hat8
  have HK7 := Lib.hid hk7
  have HK8 := Lib.hid hk8
  clear hat7 hat8 hk7 hk8
  clear hc7
  go_wp2_with fail
  go_ret
  exact ⟨rfl, by first | exact ⟨HAT8.out, HK8.out⟩ | exact ⟨HAT7.out, HK7.out⟩⟩
end Go.Proofs.YtljabmkmngbhkaaGreatDoor
