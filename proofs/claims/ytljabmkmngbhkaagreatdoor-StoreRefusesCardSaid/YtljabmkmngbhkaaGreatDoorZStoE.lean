/-
  Snap, and Get out of memory.
-/
import Derived.Test.YtljabmkmngbhkaaGreatDoorZStoD
namespace Go.Proofs.YtljabmkmngbhkaaGreatDoor
open Go.RowKit
set_option linter.unusedVariables false
set_option linter.unusedSimpArgs false

def snapS (S : StV) : StV := { S with snaps := S.snaps ++ [S.seq] }
theorem snap_fin {w0 w W w4 : World} {p : StP} {Y : Nat → Prop} {F : CfgV} {S : StV} (h : StAt w0 w p Y F S) (hW : Chg (fun _ => False) w W) {v' : Value} (hL : Lst i64C w4 v' (S.snaps ++ [S.seq])) (hc : Chg (fun k => p.sv.ownBlock = some k) W w4) (ho : ∀ k, v'.ownBlock = some k → p.sv.ownBlock = some k ∨ W.heap.size ≤ k) : SPost w0 p F (snapS S) (w4.setCell ⟨p.s, 26, none⟩ v') := by
  have hsv : ∀ {k : Nat} {t : TypeId} {cs : Array Value}, Blk W k t cs → t ≠ 2 → ¬ p.sv.ownBlock = some k := fun hb ht e => by
    obtain ⟨cs, hb'⟩ := (h.snaps.same hW).typed e
    exact hb.ne_ hb' ht rfl
  have h1 := h.same hW
  obtain ⟨w5, hw5⟩ : ∃ w5, w5 = w4.setCell ⟨p.s, 26, none⟩ v' := ⟨_, rfl⟩
  have hc5 : Chg (fun k => k = p.s) w4 w5 := by rw [hw5]; exact Chg.setCell (S := fun k => k = p.s) (Chg.refl _ _) (p := ⟨p.s, 26, none⟩) (fun _ => rfl) _
  have hC : Chg (fun k => p.sv.ownBlock = some k ∨ k = p.s) W w5 := (hc.mono fun k _ e => .inl e).trans hc5 fun k _ e => .inr e
  have hs4 : Blk w4 p.s 86 _ := h1.blk.chg hc (hsv h1.blk (by decide))
  have hs5 := hs4.set_ 26 v'
  rw [← hw5] at hs5 ⊢
  have hdy := h1.disk.other hC fun k _ e => by
    rcases e with e | rfl
    · exact h.foot k (.inr (.inr (.inr e)))
    · exact h.foot _ (.inl rfl)
  have footC : ∀ k, FootC p.c p.b p.m [] k → ¬ (p.sv.ownBlock = some k ∨ k = p.s) := fun k hk e => by
    rcases e with e | rfl
    · obtain ⟨cs, hb⟩ := h1.snaps.typed e
      have hb : Blk W k 2 cs := hb
      exact cache_off h1.cache hb (by decide) hk
    · exact cache_off h1.cache h1.blk (by decide) hk
  have hz := hW.size
  have hz2 := hC.size
  refine ⟨{ p with sv := v' }, fun k => Y k ∨ (W.heap.size ≤ k ∧ k < w5.heap.size), rfl, rfl, ?_⟩
  exact {
    blk := by simpa [stCells, snapS] using hs5
    disk := hdy
    cache := h1.cache.chg hC footC
    skip := h1.skip.chg hC (fun k hk e => by
      rcases e with e | rfl
      · obtain ⟨cs, hb⟩ := h1.snaps.typed e
        have hb : Blk W k 2 cs := hb
        exact h1.skip.off hb (by decide) hk
      · exact h1.skip.off h1.blk (by decide) hk) (by simp)
    ent := h.ent
    snaps := hL.chg hc5 fun k hk e => by
      subst e
      obtain ⟨cs, hb⟩ := hL.typed hk
      exact hs4.ne_ hb (by decide) rfl
    foot := fun k hk => by
      rcases hk with e | e | e | e
      · exact ⟨.inl (h.foot k (.inl e)).1, (h.foot k (.inl e)).2⟩
      · exact ⟨.inl (h.foot k (.inr (.inl e))).1, (h.foot k (.inr (.inl e))).2⟩
      · exact ⟨.inl (h.foot k (.inr (.inr (.inl e)))).1, (h.foot k (.inr (.inr (.inl e)))).2⟩
      · have := (hL.lt e)
        have := hc5.size
        rcases ho k e with e | e
        · exact ⟨.inl (h.foot k (.inr (.inr (.inr e)))).1, (h.foot k (.inr (.inr (.inr e)))).2⟩
        · exact ⟨.inr ⟨e, by omega⟩, by have := h1.disk.frame.size; omega⟩
    low := h.low
    sq := h.sq
    nw := h.nw }
set_option maxRecDepth 100000 in
set_option maxHeartbeats 4000000 in
theorem st_snap (w0 w : World) (p : StP) (Y : Nat → Prop) (F : CfgV) (S : StV) (h : StAt w0 w p Y F S) (hcl : S.closed = false) (hn : S.snaps.length < 64) :
    Calls Tryz.prog 17 #[.pointer (some ⟨p.s, 0, none⟩)] w fun e w' => e = .returned (.int .i64 S.seq) ∧ SPost w0 p F (snapS S) w' := by
  have hsn := h.snaps
  obtain ⟨sa, sc, hsve, _, _, _⟩ := hsn.form i64Ok
  have y30 := h.blk.cell 30
  have y26 := h.blk.cell 26
  have y28 := h.blk.cell 28
  have f26 := h.blk.frozen 26
  simp [stCells, hcl] at y30 y26 y28
  have hne : ¬ ((S.snaps.length : Int) = 64) := by omega
  have hfin := fun W w4 v' => snap_fin (W := W) (w4 := w4) (v' := v') h
  have hsl := h.blk.lt
  have hsv : ¬ p.sv.ownBlock = some p.s := fun e => by
    obtain ⟨cs, hb'⟩ := h.snaps.typed e
    exact h.blk.ne_ hb' (by decide) rfl
  rw [hsve] at y26 hsn hfin hsv
  have HSN := Lib.hid hsn
  have HFIN := Lib.hid hfin
  have HSV := Lib.hid hsv
  clear hsn hfin hsv
  go_enter Tryz.func17, Tryz.ntmps17
  go_wp2_with fail
  go_region_law ((refine step_lst_app i64Ok _ (by rfl) _ _ (by rfl) S.snaps (.slice sa S.snaps.length sc) S.seq (by rfl) (HSN.out.same cgS) _ (by rfl) (by omega) (by show Blk _ _ 2 #[.int .i64 S.seq]; repeat (first | with_reducible exact Blk.new _ _ _ | with_reducible refine Blk.drew ?_ | with_reducible refine Blk.alloc ?_ _)) ?_; intro v' w4 h2 h3 h4; obtain ⟨a4, c4, rfl, _, _, _⟩ := h2.form i64Ok; have f4 : w4.frozen? ⟨p.s, 26, none⟩ = false := (h3.frozen (p := ⟨p.s, 26, none⟩) (by simp; omega) HSV.out).trans ((Chg.frozen (S := fun _ => False) (w := w) cgS hsl (by simp)).trans f26); have u26 : w4.cell? ⟨p.s, 26, none⟩ = some (.slice sa S.snaps.length sc) := (h3.cell (p := ⟨p.s, 26, none⟩) (by simp; omega) HSV.out).trans (ky_chg (w := w) cgS y26); have u28 : w4.cell? ⟨p.s, 28, none⟩ = some (.int .i64 S.seq) := (h3.cell (p := ⟨p.s, 28, none⟩) (by simp; omega) HSV.out).trans (ky_chg (w := w) cgS y28); have hF := HFIN.out _ w4 _ cgS h2 h3 h4; have HF := Lib.hid hF; clear h2 h3 h4 hF))
  all_goals
    have hF := HF.out
    rw [List.length_append, List.length_singleton] at hF
    obtain ⟨w5, hw5⟩ : ∃ w5, w5 = w4.setCell ⟨p.s, 26, none⟩ (.slice a4 (S.snaps.length + 1) c4) := ⟨_, rfl⟩
    rw [← hw5] at hF ⊢
    have v28 : w5.cell? ⟨p.s, 28, none⟩ = some (.int .i64 S.seq) := by
      obtain ⟨p', Y', hps, hpb, hat⟩ := hF
      have z := hat.blk.cell 28
      rw [hps] at z
      exact z
    have HFF := Lib.hid hF
    clear hF
    clear HF hw5 u26 u28 f4
    go_wp2_with fail
    go_ret
    exact ⟨rfl, HFF.out⟩
def aliveE (e : EntryV) (now : Int) : Bool := !e.gone && (decide (e.till = 0) || decide (now ≤ e.till))
set_option maxRecDepth 100000 in
set_option maxHeartbeats 4000000 in
theorem me_alive (e : EntryV) (now : Int) (w : World) : Calls Tryz.prog 43 #[entA e, .int .i64 now] w fun r w' => r = .returned (.bool (aliveE e now)) ∧ Chg (fun _ => False) w w' := by
  obtain ⟨k, sq, g, vv, t⟩ := e
  unfold entA aliveE
  simp only
  cases g
  by_cases h0 : t = 0
  · subst h0
    obtain ⟨w1, hw1⟩ : ∃ w1, w1 = w.alloc (.cells #[.string k, .int .i64 sq, .bool false, .string vv, .int .i64 0] 41) := ⟨_, rfl⟩
    have hc1 : Chg (fun _ => False) w w1 := by rw [hw1]; exact (Chg.refl _ _).alloc _
    have hb1 : Blk w1 w.heap.size 41 #[.string k, .int .i64 sq, .bool false, .string vv, .int .i64 0] := by rw [hw1]; exact Blk.new _ _ _
    have x2 := hb1.cell 2
    have x4 := hb1.cell 4
    simp at x2 x4
    have HW1 := Lib.hid hw1
    have HC1 := Lib.hid hc1
    clear hw1 hc1
    clear hb1
    go_enter Tryz.func43, Tryz.ntmps43
    go_upto_region 1 with fail
    rw [← HW1.out]
    go_wp2_with fail
    go_ret
    exact ⟨by first | rfl | simp, HC1.out⟩
  by_cases h1 : now ≤ t
  · have q : (t == 0) = false := by simp [h0]
    obtain ⟨w1, hw1⟩ : ∃ w1, w1 = w.alloc (.cells #[.string k, .int .i64 sq, .bool false, .string vv, .int .i64 t] 41) := ⟨_, rfl⟩
    have hc1 : Chg (fun _ => False) w w1 := by rw [hw1]; exact (Chg.refl _ _).alloc _
    have hb1 : Blk w1 w.heap.size 41 #[.string k, .int .i64 sq, .bool false, .string vv, .int .i64 t] := by rw [hw1]; exact Blk.new _ _ _
    have x2 := hb1.cell 2
    have x4 := hb1.cell 4
    simp at x2 x4
    have HW1 := Lib.hid hw1
    have HC1 := Lib.hid hc1
    clear hw1 hc1
    clear hb1
    go_enter Tryz.func43, Tryz.ntmps43
    go_upto_region 1 with fail
    rw [← HW1.out]
    go_wp2_with fail
    go_ret
    exact ⟨by first | rfl | simp [h1], HC1.out⟩
  · have q : (t == 0) = false := by simp [h0]
    obtain ⟨w1, hw1⟩ : ∃ w1, w1 = w.alloc (.cells #[.string k, .int .i64 sq, .bool false, .string vv, .int .i64 t] 41) := ⟨_, rfl⟩
    have hc1 : Chg (fun _ => False) w w1 := by rw [hw1]; exact (Chg.refl _ _).alloc _
    have hb1 : Blk w1 w.heap.size 41 #[.string k, .int .i64 sq, .bool false, .string vv, .int .i64 t] := by rw [hw1]; exact Blk.new _ _ _
    have x2 := hb1.cell 2
    have x4 := hb1.cell 4
    simp at x2 x4
    have HW1 := Lib.hid hw1
    have HC1 := Lib.hid hc1
    clear hw1 hc1
    clear hb1
    go_enter Tryz.func43, Tryz.ntmps43
    go_upto_region 1 with fail
    rw [← HW1.out]
    go_wp2_with fail
    go_ret
    exact ⟨by first | rfl | (simp [h0, h1]; done) | (simp [h0]; omega), HC1.out⟩

  · skip
    obtain ⟨w1, hw1⟩ : ∃ w1, w1 = w.alloc (.cells #[.string k, .int .i64 sq, .bool true, .string vv, .int .i64 t] 41) := ⟨_, rfl⟩
    have hc1 : Chg (fun _ => False) w w1 := by rw [hw1]; exact (Chg.refl _ _).alloc _
    have hb1 : Blk w1 w.heap.size 41 #[.string k, .int .i64 sq, .bool true, .string vv, .int .i64 t] := by rw [hw1]; exact Blk.new _ _ _
    have x2 := hb1.cell 2
    have x4 := hb1.cell 4
    simp at x2 x4
    have HW1 := Lib.hid hw1
    have HC1 := Lib.hid hc1
    clear hw1 hc1
    clear hb1
    go_enter Tryz.func43, Tryz.ntmps43
    go_upto_region 1 with fail
    rw [← HW1.out]
    go_wp2_with fail
    go_ret
    exact ⟨by first | rfl | simp, HC1.out⟩
set_option maxRecDepth 100000 in
set_option maxHeartbeats 4000000 in
theorem st_fail0 (s : Nat) (w : World) : Calls Tryz.prog 37 #[.pointer (some ⟨s, 0, none⟩), .int .i64 0] w fun r w' => r = .returned (.int .i64 0) ∧ w = w' := by
  go_enter Tryz.func37, Tryz.ntmps37
  go_wp2
  go_ret
  exact ⟨rfl, rfl⟩
set_option maxRecDepth 100000 in
set_option maxHeartbeats 4000000 in
theorem st_newest (w0 w : World) (p : StP) (Y : Nat → Prop) (F : CfgV) (S : StV) (h : StAt w0 w p Y F S) (k : ByteArray) (seq : Int) (x : EntryV) (hg : getL S.L k seq = (x, true)) :
    Calls Tryz.prog 42 #[.pointer (some ⟨p.s, 0, none⟩), .string k, .int .i64 seq] w fun r w' => r = .returned (.tuple #[entA x, .bool true, .int .i64 0]) ∧ Chg (fun _ => False) w w' := by
  obtain ⟨w1, hw1⟩ : ∃ w1, w1 = w.alloc (.cells #[.string ⟨#[]⟩, .int .i64 0, .bool false, .string ⟨#[]⟩, .int .i64 0] 41) := ⟨_, rfl⟩
  obtain ⟨br, hbr⟩ : ∃ br, w.heap.size = br := ⟨_, rfl⟩
  have hb1 : Blk w1 br 41 #[.string ⟨#[]⟩, .int .i64 0, .bool false, .string ⟨#[]⟩, .int .i64 0] := by rw [hw1, ← hbr]; exact Blk.new _ _ _
  have hc1 : Chg (fun _ => False) w w1 := by rw [hw1]; exact (Chg.refl _ _).alloc _
  have hget := sk_get p.l p.hb (.slice none 0 0) [] p.N S.size k seq w1 (h.same hc1).skip
  have e1 := getE_map p.N k seq
  rw [h.ent, hg] at e1
  rw [e1] at hget
  have y12 := (h.same hc1).blk.cell 12
  simp [stCells] at y12
  have HW1 := Lib.hid hw1
  have HB1 := Lib.hid hb1
  have HC1 := Lib.hid hc1
  have HGET := Lib.hid hget
  have HBR := Lib.hid hbr
  clear hw1 hb1 hc1 hget hbr
  clear h hg e1
  go_enter Tryz.func42, Tryz.ntmps42
  go_upto_region 1 with fail
  rw [HBR.out]
  rw [← HW1.out]
  go_wp2_with fail
  refine HGET.out.mono ?_
  rintro r w2 ⟨rfl, hc2⟩
  unfold entA
  have hc02 := HC1.out.then hc2
  have hb2 := HB1.out.chg hc2 (by simp)
  have hbr2 := HBR.out
  have hsz := hb2.lt
  obtain ⟨b9, hb9⟩ : ∃ b9, w2.heap.size = b9 := ⟨_, rfl⟩
  obtain ⟨w3, hw3⟩ : ∃ w3, w3 = w2.alloc (.cells #[.string x.key, .int .i64 x.seq, .bool x.gone, .string x.value, .int .i64 x.till] 41) := ⟨_, rfl⟩
  have hc3 : Chg (fun _ => False) w2 w3 := by rw [hw3]; exact (Chg.refl _ _).alloc _
  have hb3 := hb2.chg hc3 (by simp)
  have hn9 : Blk w3 b9 41 #[.string x.key, .int .i64 x.seq, .bool x.gone, .string x.value, .int .i64 x.till] := by rw [hw3, ← hb9]; exact Blk.new _ _ _
  have hc03 := hc02.then hc3
  have f0 := hb3.frozen 0
  have f1 := hb3.frozen 1
  have f2 := hb3.frozen 2
  have f3 := hb3.frozen 3
  have f4 := hb3.frozen 4
  have x0 := hb3.cell 0
  have x1 := hb3.cell 1
  have x2 := hb3.cell 2
  have x3 := hb3.cell 3
  have x4 := hb3.cell 4
  simp at x0 x1 x2 x3 x4
  have y0 := hn9.cell 0
  have y1 := hn9.cell 1
  have y2 := hn9.cell 2
  have y3 := hn9.cell 3
  have y4 := hn9.cell 4
  simp at y0 y1 y2 y3 y4
  have HC03 := Lib.hid hc03
  have HB3 := Lib.hid hb3
  have HW3 := Lib.hid hw3
  have HB9 := Lib.hid hb9
  clear hc03 hb3 hw3 hb9
  clear hc2 hc3 hc02 hb2 hn9
  go_upto_region 2 with fail
  rw [HB9.out]
  rw [← HW3.out]
  go_wp2_with fail
  have hz := ((((HB3.out.set_ 0 (.string x.key)).set_ 1 (.int .i64 x.seq)).set_ 2 (.bool x.gone)).set_ 3 (.string x.value)).set_ 4 (.int .i64 x.till)
  have z0 := hz.cell 0
  have z1 := hz.cell 1
  have z2 := hz.cell 2
  have z3 := hz.cell 3
  have z4 := hz.cell 4
  simp at z0 z1 z2 z3 z4
  have hcz : Chg (fun _ => False) w (((((w3.setCell ⟨br, 0, none⟩ (.string x.key)).setCell ⟨br, 1, none⟩ (.int .i64 x.seq)).setCell ⟨br, 2, none⟩ (.bool x.gone)).setCell ⟨br, 3, none⟩ (.string x.value)).setCell ⟨br, 4, none⟩ (.int .i64 x.till)) := by
    have h2 := HC03.out
    repeat (first | with_reducible exact h2 | with_reducible refine Chg.setCell ?_ (by intro h; simp at h; omega) _)
  exact bodyPost_ret (v := .tuple #[.agg #[.string x.key, .int .i64 x.seq, .bool x.gone, .string x.value, .int .i64 x.till], .bool true, .int .i64 0]) (by simp [results, Tryz.results42, go_sem, z0, z1, z2, z3, z4]) rfl ⟨rfl, hcz⟩
/-- What Get answers. -/
def gotE (x : EntryV) (now : Int) : EntryV × Bool := if aliveE x now = true then (x, true) else (zeroE, false)
set_option maxRecDepth 100000 in
set_option maxHeartbeats 4000000 in
theorem st_get (w0 w : World) (p : StP) (Y : Nat → Prop) (F : CfgV) (S : StV) (h : StAt w0 w p Y F S) (hcl : S.closed = false) (k : ByteArray) (seq : Int) (x : EntryV) (hg : getL S.L k seq = (x, true)) :
    Calls Tryz.prog 7 #[.pointer (some ⟨p.s, 0, none⟩), .string k, .int .i64 seq] w fun r w' => r = .returned (.tuple #[entA (gotE x S.now).1, .bool (gotE x S.now).2, .int .i64 0]) ∧ Chg (fun _ => False) w w' := by
  obtain ⟨w1, hw1⟩ : ∃ w1, w1 = w.alloc (.cells #[.string ⟨#[]⟩, .int .i64 0, .bool false, .string ⟨#[]⟩, .int .i64 0] 41) := ⟨_, rfl⟩
  obtain ⟨br, hbr⟩ : ∃ br, w.heap.size = br := ⟨_, rfl⟩
  have hb1 : Blk w1 br 41 #[.string ⟨#[]⟩, .int .i64 0, .bool false, .string ⟨#[]⟩, .int .i64 0] := by rw [hw1, ← hbr]; exact Blk.new _ _ _
  have hc1 : Chg (fun _ => False) w w1 := by rw [hw1]; exact (Chg.refl _ _).alloc _
  have hget := st_newest w0 w1 p Y F S (h.same hc1) k seq x hg
  have y30 := (h.same hc1).blk.cell 30
  have y10 := (h.same hc1).blk.cell 27
  simp [stCells, hcl] at y30 y10
  have hal := me_alive x S.now
  have hf := st_fail0 p.s
  obtain ⟨al, hal2⟩ : ∃ al, aliveE x S.now = al := ⟨_, rfl⟩
  have hpo : gotE x S.now = if al = true then (x, true) else (zeroE, false) := by rw [← hal2]; rfl
  rw [hal2] at hal
  rw [hpo]
  unfold entA at hget hal
  have HW1 := Lib.hid hw1
  have HB1 := Lib.hid hb1
  have HC1 := Lib.hid hc1
  have HGET := Lib.hid hget
  have HBR := Lib.hid hbr
  have HAL := Lib.hid hal
  have HF := Lib.hid hf
  clear hw1 hb1 hc1 hget hbr hal hf
  clear h hg hal2 hpo
  go_enter Tryz.func7, Tryz.ntmps7
  go_upto_region 1 with fail
  rw [HBR.out]
  rw [← HW1.out]
  go_wp2_with fail
  refine HGET.out.mono ?_
  rintro r w2 ⟨rfl, hc2⟩
  have hc02 := HC1.out.then hc2
  have hb2 := HB1.out.chg hc2 (by simp)
  have hbr2 := HBR.out
  replace y10 := ky_chg hc2 y10
  obtain ⟨b9, hb9⟩ : ∃ b9, w2.heap.size = b9 := ⟨_, rfl⟩
  obtain ⟨w3, hw3⟩ : ∃ w3, w3 = w2.alloc (.cells #[.string x.key, .int .i64 x.seq, .bool x.gone, .string x.value, .int .i64 x.till] 41) := ⟨_, rfl⟩
  have hc3 : Chg (fun _ => False) w2 w3 := by rw [hw3]; exact (Chg.refl _ _).alloc _
  have hb3 := hb2.chg hc3 (by simp)
  have hn9 : Blk w3 b9 41 #[.string x.key, .int .i64 x.seq, .bool x.gone, .string x.value, .int .i64 x.till] := by rw [hw3, ← hb9]; exact Blk.new _ _ _
  have hc03 := hc02.then hc3
  replace y10 := ky_chg hc3 y10
  have y0 := hn9.cell 0
  have y1 := hn9.cell 1
  have y2 := hn9.cell 2
  have y3 := hn9.cell 3
  have y4 := hn9.cell 4
  simp at y0 y1 y2 y3 y4
  have HC03 := Lib.hid hc03
  have HB3 := Lib.hid hb3
  have HW3 := Lib.hid hw3
  have HB9 := Lib.hid hb9
  have HN9 := Lib.hid hn9
  clear hc03 hb3 hw3 hb9 hn9
  clear hc2 hc3 hc02 hb2 y30
  go_upto_region 6 with fail
  rw [HB9.out]
  rw [← HW3.out]
  go_region_held3 (fun w' => w'.cell? ⟨b9, 0, none⟩ = some (.string x.key) ∧ w'.cell? ⟨b9, 1, none⟩ = some (.int .i64 x.seq) ∧ w'.cell? ⟨b9, 2, none⟩ = some (.bool x.gone) ∧ w'.cell? ⟨b9, 3, none⟩ = some (.string x.value) ∧ w'.cell? ⟨b9, 4, none⟩ = some (.int .i64 x.till) ∧ w'.cell? ⟨p.s, 27, none⟩ = some (.int .i64 S.now) ∧ Chg (fun _ => False) w3 w')
    ((go_split_ands; (try dsimp only); (repeat' with_reducible apply And.intro) <;> (repeat (first | with_reducible assumption | with_reducible exact Chg.refl _ _ | with_reducible refine ky_drew ?_ | with_reducible refine Chg.drew ?_ | with_reducible refine ky_chg hc6 ?_ | with_reducible refine Chg.then ?_ hc6))))
    (first | (go_at_call 43; refine (HAL.out _).mono ?_; rintro r w6 ⟨rfl, hc6⟩))
  have hc36 : Chg (fun _ => False) w3 w6 := Chg.then cgS hc6
  have hc06 := HC03.out.then hc36
  have hb6 := HB3.out.chg hc36 (by simp)
  have hn6 := HN9.out.chg hc36 (by simp)
  have f0 := hb6.frozen 0
  have f1 := hb6.frozen 1
  have f2 := hb6.frozen 2
  have f3 := hb6.frozen 3
  have f4 := hb6.frozen 4
  have x0 := hb6.cell 0
  have x1 := hb6.cell 1
  have x2 := hb6.cell 2
  have x3 := hb6.cell 3
  have x4 := hb6.cell 4
  simp at x0 x1 x2 x3 x4
  clear y0 y1 y2 y3 y4 y10
  have y0 := hn6.cell 0
  have y1 := hn6.cell 1
  have y2 := hn6.cell 2
  have y3 := hn6.cell 3
  have y4 := hn6.cell 4
  simp at y0 y1 y2 y3 y4
  have HC06 := Lib.hid hc06
  have HB6 := Lib.hid hb6
  clear hc06 hb6
  clear hc6 hc36 hn6 HN9 HB3 HC03 HC1
  cases al with
  | true =>
    go_wp2_with fail
    have hz := ((((HB6.out.set_ 0 (.string x.key)).set_ 1 (.int .i64 x.seq)).set_ 2 (.bool x.gone)).set_ 3 (.string x.value)).set_ 4 (.int .i64 x.till)
    have z0 := hz.cell 0
    have z1 := hz.cell 1
    have z2 := hz.cell 2
    have z3 := hz.cell 3
    have z4 := hz.cell 4
    simp at z0 z1 z2 z3 z4
    have hcz : Chg (fun _ => False) w (((((w6.setCell ⟨br, 0, none⟩ (.string x.key)).setCell ⟨br, 1, none⟩ (.int .i64 x.seq)).setCell ⟨br, 2, none⟩ (.bool x.gone)).setCell ⟨br, 3, none⟩ (.string x.value)).setCell ⟨br, 4, none⟩ (.int .i64 x.till)) := by
      have h2 := HC06.out
      repeat (first | with_reducible exact h2 | with_reducible refine Chg.setCell ?_ (by intro h; simp at h; omega) _)
    exact bodyPost_ret (v := .tuple #[.agg #[.string x.key, .int .i64 x.seq, .bool x.gone, .string x.value, .int .i64 x.till], .bool true, .int .i64 0]) (by simp [results, Tryz.results7, go_sem, z0, z1, z2, z3, z4]) rfl ⟨rfl, hcz⟩
  | false =>
    go_wp2_with fail
    refine (HF.out _).mono ?_
    rintro r w7 ⟨rfl, rfl⟩
    have k0 : w6.setCell ⟨br, 0, none⟩ (.string ⟨#[]⟩) = w6 := set_self HB6.out 0 _ rfl
    have k1 : w6.setCell ⟨br, 1, none⟩ (.int .i64 0) = w6 := set_self HB6.out 1 _ rfl
    have k2 : w6.setCell ⟨br, 2, none⟩ (.bool false) = w6 := set_self HB6.out 2 _ rfl
    have k3 : w6.setCell ⟨br, 3, none⟩ (.string ⟨#[]⟩) = w6 := set_self HB6.out 3 _ rfl
    have k4 : w6.setCell ⟨br, 4, none⟩ (.int .i64 0) = w6 := set_self HB6.out 4 _ rfl
    go_wp2_with fail
    exact bodyPost_ret (v := .tuple #[.agg #[.string ⟨#[]⟩, .int .i64 0, .bool false, .string ⟨#[]⟩, .int .i64 0], .bool false, .int .i64 0]) (by simp [results, Tryz.results7, go_sem, x0, x1, x2, x3, x4]) rfl ⟨by first | rfl | simp [zeroE], HC06.out⟩
end Go.Proofs.YtljabmkmngbhkaaGreatDoor
