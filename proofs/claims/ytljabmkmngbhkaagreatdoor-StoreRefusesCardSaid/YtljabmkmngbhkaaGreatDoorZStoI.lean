/-
  Open.
-/
import Derived.Test.YtljabmkmngbhkaaGreatDoorZMg41
import Derived.Test.YtljabmkmngbhkaaGreatDoorZStoB
import Derived.Deep.RegionHeld3
import Derived.RegionTactic
import Derived.BigRegion
import Derived.Deep.RegionLaw
import Derived.Lib.SliceRun
namespace Go.Proofs.YtljabmkmngbhkaaGreatDoor
open Go.RowKit
set_option linter.unusedVariables false
set_option linter.unusedSimpArgs false

theorem open_fin {w0 w w' : World} {d s b c m l hb : Nat} {D : DiskV} {Y : Nat → Prop} {F : CfgV} (hd : DY w0 w d D Y) (hc : Chg (fun _ => False) w w') (hs : Blk w' s 86 (stCells d b c l (.slice none 0 0) F (newS D F.limit)))
    (hca : CacheAt w' c b m [] (Bud.start F.limit)) (hsk : SkipAt w' l hb (.slice none 0 0) [] [] 0) (g1 : w.heap.size ≤ s) (g2 : w.heap.size ≤ b) (g3 : w.heap.size ≤ c) (g4 : w.heap.size ≤ m ∧ m < w'.heap.size) (g5 : w.heap.size ≤ l) (g6 : w.heap.size ≤ hb) :
    StAt w0 w' ⟨s, d, b, c, m, l, hb, .slice none 0 0, []⟩ (fun k => Y k ∨ (w.heap.size ≤ k ∧ k < w'.heap.size)) F (newS D F.limit) := by
  have hz := hd.frame.size
  exact {
    blk := hs
    disk := hd.grow hc
    cache := hca
    skip := hsk
    ent := rfl
    snaps := Lst.nil _ _
    foot := fun k hk => by
      rcases hk with e | e | e | e
      · have e : k = s := e
        subst e
        exact ⟨.inr ⟨g1, hs.lt⟩, by omega⟩
      · rcases e with e | e | e | ⟨y, hy, _⟩
        · have e : k = c := e
          subst e
          exact ⟨.inr ⟨g3, hca.ring.blk.lt⟩, by omega⟩
        · have e : k = b := e
          subst e
          exact ⟨.inr ⟨g2, hca.bud.blk.lt⟩, by omega⟩
        · have e : k = m := e
          subst e
          exact ⟨.inr g4, by omega⟩
        · cases hy
      · have hlt := hsk.lt k e
        rcases e with e | e | ⟨n, hn, _⟩
        · have e : k = l := e
          subst e
          exact ⟨.inr ⟨g5, hlt⟩, by omega⟩
        · have e : k = hb := e
          subst e
          exact ⟨.inr ⟨g6, hlt⟩, by omega⟩
        · cases hn
      · simp [Value.ownBlock] at e
    low := fun m hm => by cases hm
    sq := by simp [newS]
    nw := by simp [newS] }
set_option maxRecDepth 100000 in
set_option maxHeartbeats 4000000 in
theorem open_nil (li me bl bi fi ze ba ra : Int) (w : World) : Calls Tryz.prog 4 #[.pointer none, .agg #[.int .i64 li, .int .i64 me, .int .i64 bl, .int .i64 bi, .int .i64 fi, .int .i64 ze, .int .i64 ba, .int .i64 ra, .slice none 0 0]] w fun e w' => e = .returned (.tuple #[.pointer none, .int .i64 1]) ∧ Chg (fun _ => False) w w' := by
  go_enter Tryz.func4, Tryz.ntmps4
  go_wp2_with fail
  go_ret2
  exact ⟨rfl, cgS⟩
set_option maxRecDepth 100000 in
set_option maxHeartbeats 4000000 in
theorem open_bad (d : Nat) (li me bl bi fi ze ba ra : Int) (hg : goodC me bl bi fi = false) (w : World) : Calls Tryz.prog 4 #[.pointer (some ⟨d, 0, none⟩), .agg #[.int .i64 li, .int .i64 me, .int .i64 bl, .int .i64 bi, .int .i64 fi, .int .i64 ze, .int .i64 ba, .int .i64 ra, .slice none 0 0]] w fun e w' => e = .returned (.tuple #[.pointer none, .int .i64 2]) ∧ Chg (fun _ => False) w w' := by
  obtain ⟨g, hgs⟩ : ∃ g, w.heap.size = g := ⟨_, rfl⟩
  obtain ⟨w1, hw1⟩ : ∃ w1, w1 = w.alloc (.cells #[.int .i64 li, .int .i64 me, .int .i64 bl, .int .i64 bi, .int .i64 fi, .int .i64 ze, .int .i64 ba, .int .i64 ra, .slice none 0 0] 31) := ⟨_, rfl⟩
  have hc1 : Chg (fun _ => False) w w1 := by rw [hw1]; exact cgS
  have hb1 : Blk w1 g 31 #[.int .i64 li, .int .i64 me, .int .i64 bl, .int .i64 bi, .int .i64 fi, .int .i64 ze, .int .i64 ba, .int .i64 ra, .slice none 0 0] := by rw [hw1, ← hgs]; exact Blk.new _ _ _
  have hgo := conf_good li me bl bi fi ze ba ra w1
  rw [hg] at hgo
  have y0 := hb1.cell 0
  have y1 := hb1.cell 1
  have y2 := hb1.cell 2
  have y3 := hb1.cell 3
  have y4 := hb1.cell 4
  have y5 := hb1.cell 5
  have y6 := hb1.cell 6
  have y7 := hb1.cell 7
  have y8 := hb1.cell 8
  simp at y0 y1 y2 y3 y4 y5 y6 y7 y8
  have HGO := Lib.hid hgo
  have HW1 := Lib.hid hw1
  have HC1 := Lib.hid hc1
  have HGS := Lib.hid hgs
  clear hgo hw1 hc1 hgs
  clear hg hb1
  go_enter Tryz.func4, Tryz.ntmps4
  go_upto_region 1 with fail
  rw [← HW1.out, HGS.out]
  go_wp2_with fail
  refine HGO.out.mono ?_
  rintro e w2 ⟨rfl, hc2⟩
  have hcf := HC1.out.then hc2
  have HCF := Lib.hid hcf
  clear hcf
  clear hc2
  go_wp2_with fail
  go_ret2
  exact ⟨rfl, HCF.out⟩
/-- What Open gives. -/
def OpenPost (w0 : World) (d : Nat) (Y : Nat → Prop) (F : CfgV) (S : StV) (e : Ending) (w' : World) : Prop := ∃ p Y', e = .returned (.tuple #[.pointer (some ⟨p.s, 0, none⟩), .int .i64 0]) ∧ p.d = d ∧ (∀ k, Y k → Y' k) ∧ StAt w0 w' p Y' F S
theorem nil_clone0 (w : World) : Calls Tryz.prog 25 #[.slice none 0 0] w fun e w' => e = .returned (.slice none 0 0) ∧ Chg (fun _ => False) w w' := by
  have hq : (binOp .eql 22 (.slice none 0 0) (.slice none 0 0)).run Tryz.prog w = .ok (.bool true) w := Lib.run_eql_slice_nil w 22 3 none 0 0 0 0 Tryz.underlying22
  go_enter Tryz.func25, Tryz.ntmps25
  go_wp2_with fail
  go_ret
  exact ⟨rfl, Chg.refl _ _⟩
theorem load_of {w0 w w' W : World} {d s b c m l hb : Nat} {D : DiskV} {Y : Nat → Prop} {F : CfgV} (hd : DY w0 w d D Y) (hc : Chg (fun _ => False) w W) (hs : Blk W s 86 (stCells d b c l (.slice none 0 0) F (newS D F.limit)))
    (hca : CacheAt w' c b m [] (Bud.start F.limit)) (hcw : Chg (fun _ => False) w' W) (hsk : SkipAt W l hb (.slice none 0 0) [] [] 0) (g1 : w.heap.size ≤ s) (g2 : w.heap.size ≤ b) (g3 : w.heap.size ≤ c) (g4 : w.heap.size ≤ m ∧ m < w'.heap.size) (g5 : w.heap.size ≤ l) (g6 : w.heap.size ≤ hb)
    (ht : Tab w0) (he : ErrOk w0) (hF : FreshD D) : Calls Tryz.prog 29 #[.pointer (some ⟨s, 0, none⟩)] W fun e w' => e = .returned (.int .i64 0) ∧ ∃ p Y', p.s = s ∧ p.d = d ∧ (∀ k, Y k → Y' k) ∧ StAt w0 w' p Y' F (loadS (newS D F.limit)) := by
  have hz := hcw.size
  have hat := open_fin hd hc hs (hca.same hcw) hsk g1 g2 g3 ⟨g4.1, by omega⟩ g5 g6
  refine (st_load w0 W _ _ F _ hat ht he hF rfl rfl rfl rfl rfl rfl rfl).mono fun e w' h => ?_
  obtain ⟨h1, p, Y', e1, e2, e3, h5, h6⟩ := h
  exact ⟨h1, p, Y', e1, e3, fun k hk => h5 k (.inl hk), h6⟩
set_option maxRecDepth 100000 in
set_option maxHeartbeats 4000000 in
theorem st_open (w0 w : World) (d : Nat) (D : DiskV) (Y : Nat → Prop) (F : CfgV) (hd : DY w0 w d D Y) (ht : Tab w0) (he : ErrOk w0) (hF : FreshD D) (hg : goodC F.memory F.block F.bits F.file = true) :
    Calls Tryz.prog 4 #[.pointer (some ⟨d, 0, none⟩), .agg #[.int .i64 F.limit, .int .i64 F.memory, .int .i64 F.block, .int .i64 F.bits, .int .i64 F.file, .int .i64 F.zero, .int .i64 F.base, .int .i64 F.ratio, .slice none 0 0]] w (OpenPost w0 d Y F (loadS (newS D F.limit))) := by
  obtain ⟨g, hgs⟩ : ∃ g, w.heap.size = g := ⟨_, rfl⟩
  obtain ⟨w1, hw1⟩ : ∃ w1, w1 = w.alloc (.cells #[.int .i64 F.limit, .int .i64 F.memory, .int .i64 F.block, .int .i64 F.bits, .int .i64 F.file, .int .i64 F.zero, .int .i64 F.base, .int .i64 F.ratio, .slice none 0 0] 31) := ⟨_, rfl⟩
  have hc1 : Chg (fun _ => False) w w1 := by rw [hw1]; exact cgS
  have hb1 : Blk w1 g 31 #[.int .i64 F.limit, .int .i64 F.memory, .int .i64 F.block, .int .i64 F.bits, .int .i64 F.file, .int .i64 F.zero, .int .i64 F.base, .int .i64 F.ratio, .slice none 0 0] := by rw [hw1, ← hgs]; exact Blk.new _ _ _
  have hgo := conf_good F.limit F.memory F.block F.bits F.file F.zero F.base F.ratio w1
  rw [hg] at hgo
  have y0 := hb1.cell 0
  have y1 := hb1.cell 1
  have y2 := hb1.cell 2
  have y3 := hb1.cell 3
  have y4 := hb1.cell 4
  have y5 := hb1.cell 5
  have y6 := hb1.cell 6
  have y7 := hb1.cell 7
  have y8 := hb1.cell 8
  simp at y0 y1 y2 y3 y4 y5 y6 y7 y8
  have HGO := Lib.hid hgo
  have HW1 := Lib.hid hw1
  have HC1 := Lib.hid hc1
  have HGS := Lib.hid hgs
  have HB1 := Lib.hid hb1
  have HD := Lib.hid hd
  have HT := Lib.hid ht
  have HE := Lib.hid he
  have HF := Lib.hid hF
  clear hgo hw1 hc1 hgs hb1 hd ht he hF
  clear hg
  go_enter Tryz.func4, Tryz.ntmps4
  go_upto_region 1 with fail
  rw [← HW1.out, HGS.out]
  go_wp2_with fail
  refine HGO.out.mono ?_
  rintro e w2 ⟨rfl, hc2⟩
  have hc02 := HC1.out.then hc2
  replace y8 := ky_chg hc2 y8
  have hcl := nil_clone0 w2
  have hb2 := HB1.out.chg hc2 (by simp)
  have HC02 := Lib.hid hc02
  have HCL := Lib.hid hcl
  have HB2 := Lib.hid hb2
  clear hc02 hcl hb2
  clear hc2 y0 y1 y2 y3 y4 y5 y6 y7 HB1
  go_wp2_with fail
  refine HCL.out.mono ?_
  rintro e w3 ⟨rfl, hc3⟩
  have hc03 := HC02.out.then hc3
  have hb3 := HB2.out.chg hc3 (by simp)
  have k8 : w3.setCell ⟨g, 8, none⟩ (.slice none 0 0) = w3 := set_self hb3 8 _ rfl
  have f8 := hb3.frozen 8
  clear y8
  have y0 := hb3.cell 0
  have y1 := hb3.cell 1
  have y2 := hb3.cell 2
  have y3 := hb3.cell 3
  have y4 := hb3.cell 4
  have y5 := hb3.cell 5
  have y6 := hb3.cell 6
  have y7 := hb3.cell 7
  have y8 := hb3.cell 8
  simp at y0 y1 y2 y3 y4 y5 y6 y7 y8
  have hbn := bud_new F.limit w3
  have hg3 : w.heap.size ≤ w3.heap.size := hc03.size
  obtain ⟨bb, hbb⟩ : ∃ bb, w3.heap.size = bb := ⟨_, rfl⟩
  rw [hbb] at hbn hg3
  have HC03 := Lib.hid hc03
  have HB3 := Lib.hid hb3
  have HBN := Lib.hid hbn
  have HG3 := Lib.hid hg3
  have HBB := Lib.hid hbb
  clear hc03 hb3 hbn hg3 hbb
  clear hc3 HC02 HB2 HC1
  go_wp2_with fail
  refine HBN.out.mono ?_
  rintro e w4 ⟨rfl, hbu, _, hc4⟩
  have hc04 := HC03.out.then hc4
  have hb4 := HB3.out.chg hc4 (by simp)
  clear y0 y1 y2 y3 y4 y5 y6 y7 y8 k8 f8
  have y0 := hb4.cell 0
  have y1 := hb4.cell 1
  have y2 := hb4.cell 2
  have y3 := hb4.cell 3
  have y4 := hb4.cell 4
  have y5 := hb4.cell 5
  have y6 := hb4.cell 6
  have y7 := hb4.cell 7
  have y8 := hb4.cell 8
  simp at y0 y1 y2 y3 y4 y5 y6 y7 y8
  have hs4 : w.heap.size ≤ w4.heap.size := hc04.size
  have hca : ∀ W, Chg (fun _ => False) w4 W → Calls Tryz.prog 27 #[.pointer (some ⟨bb, 0, none⟩)] W fun e w' => ∃ c m, e = .returned (.pointer (some ⟨c, 0, none⟩)) ∧ CacheAt w' c bb m [] (Bud.start F.limit) ∧ w.heap.size ≤ c ∧ (w.heap.size ≤ m ∧ m < w'.heap.size) ∧ Chg (fun _ => False) W w' := fun W hW => by
    have hz := hW.size
    refine (cache_new bb (Bud.start F.limit) rfl W (hbu.chg hW (by simp))).mono fun e w' h => ?_
    obtain ⟨h1, h2, h3, h4⟩ := h
    exact ⟨_, _, h1, h2, by omega, ⟨by omega, by omega⟩, h3⟩
  have hsk : ∀ W, Chg (fun _ => False) w4 W → Calls Tryz.prog 28 #[.slice none 0 0] W fun e w' => ∃ l hb, e = .returned (.pointer (some ⟨l, 0, none⟩)) ∧ w.heap.size ≤ l ∧ w.heap.size ≤ hb ∧ SkipAt w' l hb (.slice none 0 0) [] [] 0 ∧ Chg (fun _ => False) W w' := fun W hW => by
    have hz := hW.size
    refine (sk_new W).mono fun e w' h => ?_
    obtain ⟨l, hb, h1, h2, h3, h4, h5⟩ := h
    exact ⟨l, hb, h1, by omega, by omega, h4, h5⟩
  have HC04 := Lib.hid hc04
  have HCA := Lib.hid hca
  have HSK := Lib.hid hsk
  have HS4 := Lib.hid hs4
  clear hc04 hca hsk hs4
  clear hbu hc4 hb4 HB3 HC03
  go_wp2_with fail
  go_region_held3 (fun w' => w'.cell? ⟨g, 0, none⟩ = some (.int .i64 F.limit) ∧ w'.cell? ⟨g, 1, none⟩ = some (.int .i64 F.memory) ∧ w'.cell? ⟨g, 2, none⟩ = some (.int .i64 F.block) ∧ w'.cell? ⟨g, 3, none⟩ = some (.int .i64 F.bits) ∧ w'.cell? ⟨g, 4, none⟩ = some (.int .i64 F.file) ∧ w'.cell? ⟨g, 5, none⟩ = some (.int .i64 F.zero) ∧ w'.cell? ⟨g, 6, none⟩ = some (.int .i64 F.base) ∧ w'.cell? ⟨g, 7, none⟩ = some (.int .i64 F.ratio) ∧ w'.cell? ⟨g, 8, none⟩ = some (.slice none 0 0))
    ((go_split_ands; (try dsimp only); (repeat' with_reducible apply And.intro) <;> (repeat (first | with_reducible assumption | with_reducible refine ky_drew ?_ | with_reducible refine ky_drewN _ ?_ | with_reducible refine ky_alloc _ ?_ | with_reducible refine ky_chg hk6 ?_ | with_reducible refine ky_chg hk5 ?_))))
    (first | (go_at_call 27; refine (HCA.out _ cgS).mono ?_; rintro e w5 ⟨c, m, rfl, hca5, hn5, hm5, hk5⟩) | (go_at_call 28; refine (HSK.out _ (by (repeat (first | with_reducible exact Chg.refl _ _ | with_reducible assumption | with_reducible refine Chg.drew ?_ | with_reducible refine Chg.then ?_ hk5)))).mono ?_; rintro e w6 ⟨l, hb, rfl, hn6, hm6, hsk6, hk6⟩))
  have hk45 : Chg (fun _ => False) w4 w5 := Chg.then cgS hk5
  obtain ⟨g6, hg6⟩ : ∃ g6, w6.heap.size = g6 := ⟨_, rfl⟩
  obtain ⟨W, hW⟩ : ∃ W, W = w6.alloc (.cells (stCells d bb c l (.slice none 0 0) F (newS D F.limit)) 86) := ⟨_, rfl⟩
  have h6W : Chg (fun _ => False) w6 W := by rw [hW]; exact cgS
  have hbW : Blk W g6 86 (stCells d bb c l (.slice none 0 0) F (newS D F.limit)) := by rw [hW, ← hg6]; exact Blk.new _ _ _
  have h56 := hk6.then h6W
  have hcw : Chg (fun _ => False) w W := (HC04.out.then hk45).then h56
  have hs6 : w.heap.size ≤ g6 := by have h1 := hk45.size; have h2 := hk6.size; have h3 := HS4.out; omega
  have hld := load_of HD.out hcw hbW hca5 h56 (hsk6.same h6W) hs6 HG3.out hn5 hm5 hn6 hm6 HT.out HE.out HF.out
  simp only [stCells, newS] at hW
  have HLD := Lib.hid hld
  have HWW := Lib.hid hW
  have HG6 := Lib.hid hg6
  clear hld hW hg6
  clear hbW h6W hcw h56 hk45 hk5 hk6 hca5 hsk6 hs6 y0 y1 y2 y3 y4 y5 y6 y7 y8
  rw [← HWW.out, HG6.out]
  go_wp2_with fail
  refine HLD.out.mono ?_
  rintro e w7 ⟨rfl, p, Y', e1, e2, e3, hat⟩
  have hfin : OpenPost w0 d Y F (loadS (newS D F.limit)) (.returned (.tuple #[.pointer (some ⟨g6, 0, none⟩), .int .i64 0])) w7 := ⟨p, Y', by rw [e1], e2, e3, hat⟩
  have HFIN := Lib.hid hfin
  clear hfin
  clear hat e1 e2 e3
  go_wp2_with fail
  go_ret2
  exact HFIN.out
end Go.Proofs.YtljabmkmngbhkaaGreatDoor
