/-
  The law StoreRefuses returns true.
-/
import Derived.Test.YtljabmkmngbhkaaGreatDoorZMg44
import Derived.Test.YtljabmkmngbhkaaGreatDoorZStoB
import Derived.Test.YtljabmkmngbhkaaGreatDoorZMg45
import Derived.Deep.RegionHeld3
namespace Go.Proofs.YtljabmkmngbhkaaGreatDoor
open Go.RowKit
set_option linter.unusedVariables false
set_option linter.unusedSimpArgs false

theorem DY.back {w w0 w' : World} {d : Nat} {D : DiskV} {Y : Nat → Prop} (h : DY w0 w' d D Y) (hc : Chg (fun _ => False) w w0) : DY w w' d D Y := by
  obtain ⟨ids, M, ha, hM, hY, hc0⟩ := h
  have := hc.size
  exact ⟨ids, M, ha, fun k hk => by have := hM k hk; omega, hY, hc.then hc0⟩
theorem disk_ever (w W : World) (hW : Chg (fun _ => False) w W) : Calls Tryz.prog 5 #[.int .i64 1099511627776] W fun e w' => ∃ d, e = .returned (.pointer (some ⟨d, 0, none⟩)) ∧ DY w w' d (startD room2) (fun _ => False) ∧ Chg (fun _ => False) W w' := by
  have h : Calls Tryz.prog 5 #[.int .i64 1099511627776] W fun e w' => e = .returned (.pointer (some ⟨W.heap.size + 2, 0, none⟩)) ∧ DState W w' (W.heap.size + 2) (startD room2) := st_new 1099511627776 (by omega) W
  refine h.mono fun e w' hp => ?_
  have hd := DY.of hp.2
  exact ⟨_, hp.1, hd.back hW, hd.frame⟩
set_option maxRecDepth 100000 in
set_option maxHeartbeats 2000000 in
theorem no_files (w : World) : Calls Tryz.prog 23 #[.agg #[.slice none 0 0, .slice none 0 0, .slice none 0 0, .slice none 0 0, .int .i64 0, .int .i64 0, .int .i64 0]] w fun e w' => e = .returned (.slice none 0 0) ∧ Chg (fun _ => False) w w' := by
  obtain ⟨g, hg⟩ : ∃ g, w.heap.size = g := ⟨_, rfl⟩
  obtain ⟨w1, hw1⟩ : ∃ w1, w1 = w.alloc (.cells #[.slice none 0 0, .slice none 0 0, .slice none 0 0, .slice none 0 0, .int .i64 0, .int .i64 0, .int .i64 0] 62) := ⟨_, rfl⟩
  have hc1 : Chg (fun _ => False) w w1 := by rw [hw1]; exact cgS
  have hb1 : Blk w1 g 62 #[.slice none 0 0, .slice none 0 0, .slice none 0 0, .slice none 0 0, .int .i64 0, .int .i64 0, .int .i64 0] := by rw [hw1, ← hg]; exact Blk.new w _ _
  have hix := fun (k : Nat) (hk : k < 4) (w : World) => run_index4 nilL hk w
  unfold nilL at hix
  have y0 := hb1.cell 0
  have y1 := hb1.cell 1
  have y2 := hb1.cell 2
  have y3 := hb1.cell 3
  simp at y0 y1 y2 y3
  have HW1 := Lib.hid hw1
  have HC1 := Lib.hid hc1
  have HIX := Lib.hid hix
  have HG := Lib.hid hg
  clear hw1 hc1 hix hg
  clear hb1
  go_enter Tryz.func23, Tryz.ntmps23
  go_upto_region 1 with fail
  rw [← HW1.out, HG.out]
  go_wp2_with fail
  go_loopw [3, 10] (fun out i wr => ∃ k : Nat, k ≤ 4 ∧ i = .int .i64 k ∧ out = .slice none 0 0 ∧ w1 = wr) (fun _ i _ => 4 - (intOf i).toNat)
  case atStart => exact ⟨0, by omega, rfl, rfl, rfl⟩
  case round =>
    obtain ⟨k, hk4, rfl, rfl, rfl⟩ := hrel
    by_cases hlt : k < 4
    · have hix := HIX.out k hlt
      have hlt' : (k : Int) < 4 := by omega
      go_wp2_with fail
      go_loopw [3, 15] (fun out i wr => out = .slice none 0 0 ∧ i = .int .i64 0 ∧ w1 = wr) (fun _ _ _ => 0)
      case atStart => exact ⟨rfl, rfl, rfl⟩
      case round =>
        obtain ⟨rfl, rfl, rfl⟩ := hrel
        go_wp2_with fail
        go_roundw
        case rel => exact ⟨k + 1, by omega, by go_num, by first | trivial | rfl | exact ⟨rfl, rfl⟩⟩
        case measure => simp [intOf]; omega
    · obtain rfl : k = 4 := by omega
      have hs := sort_ints (.slice none 0 0) [] (by simp) w1 (Lst.nil _ _)
      have HS := Lib.hid hs
      clear hs
      clear hlt hk4
      go_wp2_with fail
      refine HS.out.mono ?_
      rintro e w' ⟨rfl, _, hc'⟩
      have hfin : Chg (fun _ => False) w w' := HC1.out.trans hc' (fun k hk e => by simp [Value.ownBlock] at e)
      have HFIN := Lib.hid hfin
      clear hfin
      clear hc'
      go_wp2_with fail
      go_ret
      exact ⟨rfl, HFIN.out⟩
/-- A world in which nothing of another has changed. -/
structure Held (w0 : World) where
  W : World
  h : Chg (fun _ => False) w0 W
instance heldSome (w0 : World) : Nonempty (Held w0) := ⟨⟨w0, Chg.refl _ _⟩⟩
theorem quiet_held {w0 : World} {f : FuncId} {args : Array Value} {x : Held w0} {v : Value} (h : Calls Tryz.prog f args x.W fun e w' => e = .returned v ∧ Chg (fun _ => False) x.W w') : Calls Tryz.prog f args x.W fun e w' => e = .returned v ∧ ∃ y : Held w0, w' = y.W :=
  h.mono fun e w' hp => ⟨hp.1, ⟨w', x.h.then hp.2⟩, rfl⟩
theorem quiet_still {w0 : World} {f : FuncId} {args : Array Value} {x : Held w0} {v : Value} (h : Calls Tryz.prog f args x.W fun e w' => e = .returned v ∧ x.W = w') : Calls Tryz.prog f args x.W fun e w' => e = .returned v ∧ ∃ y : Held w0, w' = y.W :=
  h.mono fun e w' hp => ⟨hp.1, x, hp.2.symm⟩
theorem wp_held_lit {w0 : World} {id : Nat} {Q : Exit → Act → World → Prop} {a : Act} {w : World} {l : List Oper} (hm : Tryz.prog.follows .mixedOrders = true) (hB : Region.lexB .any l.toArray = true) (hc : Chg (fun _ => False) w0 w)
    (h : wpQuiet Tryz.prog l.toArray (fun w' => ∃ x : Held w0, w' = x.W) (fun a' => ∀ w', (∃ x : Held w0, w' = x.W) → Q .normal a' w') l a) : (Code.region id l.toArray true).wp Tryz.prog Q a w :=
  wp_region_quiet (C := fun w' => ∃ x : Held w0, w' = x.W) hm hB ⟨⟨_, hc.drew⟩, rfl⟩ (by simpa using h)
/-- What the fresh store's budget holds. -/
theorem start_u (D : DiskV) (li : Int) : ((closeS { loadS (newS D li) with lock := 1 }).B).u = 0 := by
  have h1 : ((Bud.start li).change 0 0).2 = Bud.start li := by
    have h0 : ¬ (max 0 (min li 1099511627776) < 0) := by omega
    simp [Bud.change, Bud.start, Bud.put, Bud.of, h0]
  show ((((Bud.start li).change 0 0).2.change 0 0).2).u = 0
  rw [h1, h1]
  rfl
set_option maxRecDepth 100000 in
set_option maxHeartbeats 8000000 in
theorem refuses_bad (li me bl bi fi ze ba ra m0 m4 : Int) (cv iv : Value) (s1 s2 : ByteArray) (w : World) (ht : Tab w) (he : ErrOk w) (hg : goodC me bl bi fi = false) :
    Calls Tryz.prog 3 #[.agg #[.int .i64 li, .int .i64 me, .int .i64 bl, .int .i64 bi, .int .i64 fi, .int .i64 ze, .int .i64 ba, .int .i64 ra, cv], .agg #[.int .i64 m0, iv, .string s1, .string s2, .int .i64 m4]] w fun e w' => e = .returned (.bool true) ∧ Chg (fun _ => False) w w' := by
  have hob := fun d W => open_bad d li me bl bi fi 0 0 0 hg W
  obtain ⟨gc, hgc⟩ : ∃ gc, w.heap.size = gc := ⟨_, rfl⟩
  obtain ⟨w1, hw1⟩ : ∃ w1, w1 = (w.alloc (.cells #[.int .i64 li, .int .i64 me, .int .i64 bl, .int .i64 bi, .int .i64 fi, .int .i64 ze, .int .i64 ba, .int .i64 ra, cv] 24)).alloc (.cells #[.int .i64 m0, iv, .string s1, .string s2, .int .i64 m4] 27) := ⟨_, rfl⟩
  have hc1 : Chg (fun _ => False) w w1 := by rw [hw1]; exact cgS
  have bc : Blk w1 gc 24 #[.int .i64 li, .int .i64 me, .int .i64 bl, .int .i64 bi, .int .i64 fi, .int .i64 ze, .int .i64 ba, .int .i64 ra, cv] := by rw [hw1, ← hgc]; exact (Blk.new _ _ _).alloc _
  have bs : Blk w1 (gc + 1) 27 #[.int .i64 m0, iv, .string s1, .string s2, .int .i64 m4] := by rw [hw1, ← hgc]; exact Blk.new1 _ _ _ _
  obtain ⟨gf, hgf⟩ : ∃ gf, w1.heap.size = gf := ⟨_, rfl⟩
  obtain ⟨w2, hw2⟩ : ∃ w2, w2 = w1.alloc (.cells #[.int .i64 li, .int .i64 me, .int .i64 bl, .int .i64 bi, .int .i64 fi, .int .i64 0, .int .i64 0, .int .i64 0, .slice none 0 0] 31) := ⟨_, rfl⟩
  have hc12 : Chg (fun _ => False) w1 w2 := by rw [hw2]; exact cgS
  have hc2 := hc1.then hc12
  have bf : Blk w2 gf 31 #[.int .i64 li, .int .i64 me, .int .i64 bl, .int .i64 bi, .int .i64 fi, .int .i64 0, .int .i64 0, .int .i64 0, .slice none 0 0] := by rw [hw2, ← hgf]; exact Blk.new _ _ _
  have hx : ∀ W, Chg (fun _ => False) w2 W → W.cell? ⟨gc + 1, 2, none⟩ = some (.string s1) ∧ W.cell? ⟨gc + 1, 3, none⟩ = some (.string s2) ∧ W.cell? ⟨gc + 1, 4, none⟩ = some (.int .i64 m4) := fun W hW => by
    have hb := bs.chg (hc12.then hW) (by simp)
    exact ⟨hb.cell 2, hb.cell 3, hb.cell 4⟩
  have hz : ∀ W, Chg (fun _ => False) w2 W → W.cell? ⟨gf, 0, none⟩ = some (.int .i64 li) ∧ W.cell? ⟨gf, 1, none⟩ = some (.int .i64 me) ∧ W.cell? ⟨gf, 2, none⟩ = some (.int .i64 bl) ∧ W.cell? ⟨gf, 3, none⟩ = some (.int .i64 bi) ∧ W.cell? ⟨gf, 4, none⟩ = some (.int .i64 fi) ∧ W.cell? ⟨gf, 5, none⟩ = some (.int .i64 0) ∧ W.cell? ⟨gf, 6, none⟩ = some (.int .i64 0) ∧ W.cell? ⟨gf, 7, none⟩ = some (.int .i64 0) ∧ W.cell? ⟨gf, 8, none⟩ = some (.slice none 0 0) := fun W hW => by
    have hb := bf.chg hW (by simp)
    exact ⟨hb.cell 0, hb.cell 1, hb.cell 2, hb.cell 3, hb.cell 4, hb.cell 5, hb.cell 6, hb.cell 7, hb.cell 8⟩
  have hq : ∀ W, Chg (fun _ => False) w2 W → W.cell? ⟨gc, 1, none⟩ = some (.int .i64 me) ∧ W.cell? ⟨gc, 2, none⟩ = some (.int .i64 bl) ∧ W.cell? ⟨gc, 3, none⟩ = some (.int .i64 bi) ∧ W.cell? ⟨gc, 4, none⟩ = some (.int .i64 fi) := fun W hW => by
    have hb := bc.chg (hc12.then hW) (by simp)
    exact ⟨hb.cell 1, hb.cell 2, hb.cell 3, hb.cell 4⟩
  have c0 := bc.cell 0
  have c1 := bc.cell 1
  have c2 := bc.cell 2
  have c3 := bc.cell 3
  have c4 := bc.cell 4
  simp at c0 c1 c2 c3 c4
  have hon := fun W => open_nil li me bl bi fi 0 0 0 W
  have HW1 := Lib.hid hw1
  have HW2 := Lib.hid hw2
  have HC2 := Lib.hid hc2
  have HX := Lib.hid hx
  have HZ := Lib.hid hz
  have HQ := Lib.hid hq
  have HON := Lib.hid hon
  have HGC := Lib.hid hgc
  have HGF := Lib.hid hgf
  have HT := Lib.hid ht
  have HE := Lib.hid he
  clear hw1 hw2 hc2 hx hz hq hon hgc hgf ht he
  clear hc1 hc12 bc bs bf
  go_enter Tryz.func3, Tryz.ntmps3
  go_upto_region 1 with fail
  rw [← HW1.out, HGC.out]
  go_upto_region 2 with fail
  rw [← HW2.out, HGF.out]
  clear c0 c1 c2 c3 c4
  obtain ⟨z0, z1, z2, z3, z4, z5, z6, z7, z8⟩ := HZ.out w2 (Chg.refl _ _)
  go_wp2_with fail
  refine (HON.out _).mono ?_
  rintro e w3 ⟨rfl, hc3⟩
  clear z0 z1 z2 z3 z4 z5 z6 z7 z8
  obtain ⟨z0, z1, z2, z3, z4, z5, z6, z7, z8⟩ := HZ.out w3 hc3
  have HCW := Lib.hid hc3
  have HT2 := Lib.hid (HT.out.chg HC2.out)
  have HE2 := Lib.hid (HE.out.chg HC2.out)
  clear hc3 HT HE HON HW1 HW2 HGC HGF
  have hdn := fun W (hW : Chg (fun _ => False) w3 W) => disk_ever w2 W (HCW.out.then hW)
  have hgo := fun W => conf_good li me bl bi fi 0 0 0 W
  have hr7 := fun W => r7_good me bl bi fi W
  simp only [hg] at hgo hr7
  have HDN := Lib.hid hdn
  have HOB := Lib.hid hob
  have HGO := Lib.hid hgo
  have HR7 := Lib.hid hr7
  clear hdn hob hgo hr7
  go_wp2_with fail
  go_region_held3 (fun w' => w'.cell? ⟨gf, 0, none⟩ = some (.int .i64 li) ∧ w'.cell? ⟨gf, 1, none⟩ = some (.int .i64 me) ∧ w'.cell? ⟨gf, 2, none⟩ = some (.int .i64 bl) ∧ w'.cell? ⟨gf, 3, none⟩ = some (.int .i64 bi) ∧ w'.cell? ⟨gf, 4, none⟩ = some (.int .i64 fi) ∧ w'.cell? ⟨gf, 5, none⟩ = some (.int .i64 0) ∧ w'.cell? ⟨gf, 6, none⟩ = some (.int .i64 0) ∧ w'.cell? ⟨gf, 7, none⟩ = some (.int .i64 0) ∧ w'.cell? ⟨gf, 8, none⟩ = some (.slice none 0 0))
    ((go_split_ands; (try dsimp only); (repeat' with_reducible apply And.intro) <;> (repeat (first | with_reducible assumption | with_reducible refine ky_drew ?_ | with_reducible refine ky_drewN _ ?_ | with_reducible refine ky_chg hk5 ?_ | with_reducible refine ky_chg hk4 ?_))))
    (first | (go_at_call 5; refine (HDN.out _ (by (repeat (first | with_reducible exact Chg.refl _ _ | with_reducible assumption | with_reducible refine Chg.drew ?_)))).mono ?_; rintro e w4 ⟨d, rfl, hd4, hk4⟩) | (go_at_call 4; refine (HOB.out d _).mono ?_; rintro e w5 ⟨rfl, hk5⟩))
  have hcn : Chg (fun _ => False) w2 w5 := HCW.out.then (Chg.then (show Chg (fun _ => False) w3 _ from cgS) (hk4.then hk5))
  clear HCW hd4 hk4 hk5 z0 z1 z2 z3 z4 z5 z6 z7 z8
  have HCW := Lib.hid hcn
  clear hcn
  have hng := fun W => no_get W none 1 s1 m4 (.inl ⟨rfl, rfl⟩)
  have hnx := fun W => no_next W none 1 s1 s2 m4 (.inl ⟨rfl, rfl⟩)
  have hnf := no_files
  simp only [entA, zeroE] at hng hnx
  have HNG := Lib.hid hng
  have HNX := Lib.hid hnx
  have HNF := Lib.hid hnf
  clear hng hnx hnf
  obtain ⟨y2, y3, y4⟩ := HX.out _ HCW.out
  go_wp2_with fail
  refine (no_commit _ none 1 (.inl ⟨rfl, rfl⟩)).mono ?_
  rintro e w9 ⟨rfl, rfl⟩
  go_wp2_with fail
  refine (HNG.out _).mono ?_
  rintro e w9 ⟨rfl, hk⟩
  have hcn := Chg.then (Chg.then HCW.out (show Chg (fun _ => False) _ _ from cgS)) hk
  clear HCW y2 y3 y4 hk
  obtain ⟨y2, y3, y4⟩ := HX.out _ hcn
  have HCW := Lib.hid hcn
  clear hcn
  have y2 := ky_alloc (.cells #[.string ⟨#[]⟩, .int .i64 0, .bool false, .string ⟨#[]⟩, .int .i64 0] 41) y2
  have y3 := ky_alloc (.cells #[.string ⟨#[]⟩, .int .i64 0, .bool false, .string ⟨#[]⟩, .int .i64 0] 41) y3
  have y4 := ky_alloc (.cells #[.string ⟨#[]⟩, .int .i64 0, .bool false, .string ⟨#[]⟩, .int .i64 0] 41) y4
  go_wp2_with fail
  refine (no_scan _ none 1 s1 s2 m4 9 (.inl ⟨rfl, rfl⟩)).mono ?_
  rintro e w9 ⟨rfl, hk⟩
  have hcn := Chg.then (Chg.then HCW.out (show Chg (fun _ => False) _ _ from cgS)) hk
  clear HCW y2 y3 y4 hk
  obtain ⟨y2, y3, y4⟩ := HX.out _ hcn
  have HCW := Lib.hid hcn
  clear hcn
  go_wp2_with fail
  refine (HNX.out _).mono ?_
  rintro e w9 ⟨rfl, hk⟩
  have hcn := Chg.then (Chg.then HCW.out (show Chg (fun _ => False) _ _ from cgS)) hk
  clear HCW y2 y3 y4 hk
  obtain ⟨y2, y3, y4⟩ := HX.out _ hcn
  have HCW := Lib.hid hcn
  clear hcn
  have y2 := ky_alloc (.cells #[.string ⟨#[]⟩, .int .i64 0, .bool false, .string ⟨#[]⟩, .int .i64 0] 41) y2
  have y3 := ky_alloc (.cells #[.string ⟨#[]⟩, .int .i64 0, .bool false, .string ⟨#[]⟩, .int .i64 0] 41) y3
  have y4 := ky_alloc (.cells #[.string ⟨#[]⟩, .int .i64 0, .bool false, .string ⟨#[]⟩, .int .i64 0] 41) y4
  go_wp2_with fail
  refine (no_step _ none 1 (.inl ⟨rfl, rfl⟩)).mono ?_
  rintro e w9 ⟨rfl, rfl⟩
  go_wp2_with fail
  refine (no_now _ m4).mono ?_
  rintro e w9 ⟨rfl, rfl⟩
  go_wp2_with fail
  refine (no_close _).mono ?_
  rintro e w9 ⟨rfl, hk⟩
  have hcn := Chg.then (Chg.then HCW.out (show Chg (fun _ => False) _ _ from cgS)) hk
  clear HCW y2 y3 y4 hk
  obtain ⟨y2, y3, y4⟩ := HX.out _ hcn
  have HCW := Lib.hid hcn
  clear hcn
  obtain ⟨z0, z1, z2, z3, z4, z5, z6, z7, z8⟩ := HZ.out _ HCW.out
  obtain ⟨q1, q2, q3, q4⟩ := HQ.out _ HCW.out
  have hwk := fun W (hW : Chg (fun _ => False) w9 W) => st_wakes W ((HT2.out.chg HCW.out).chg hW) ((HE2.out.chg HCW.out).chg hW)
  have HWK := Lib.hid hwk
  clear hwk
  clear y2 y3
  go_wp2_with fail
  go_cut [185] (fun r wx => r = .bool false ∧ Chg (fun _ => False) w9 wx)
  case first =>
    have q0 := fun x : Held w9 => (HZ.out x.W (HCW.out.then x.h)).1
    have qz := fun x : Held w9 => (HZ.out x.W (HCW.out.then x.h)).2
    have q1 := fun x : Held w9 => (qz x).1
    have q2 := fun x : Held w9 => (qz x).2.1
    have q3 := fun x : Held w9 => (qz x).2.2.1
    have q4 := fun x : Held w9 => (qz x).2.2.2.1
    have q5 := fun x : Held w9 => (qz x).2.2.2.2.1
    have q6 := fun x : Held w9 => (qz x).2.2.2.2.2.1
    have q7 := fun x : Held w9 => (qz x).2.2.2.2.2.2.1
    have q8 := fun x : Held w9 => (qz x).2.2.2.2.2.2.2
    have qq := fun x : Held w9 => HQ.out x.W (HCW.out.then x.h)
    have p1 := fun x : Held w9 => (qq x).1
    have p2 := fun x : Held w9 => (qq x).2.1
    have p3 := fun x : Held w9 => (qq x).2.2.1
    have p4 := fun x : Held w9 => (qq x).2.2.2
    have p5 := fun x : Held w9 => (HX.out x.W (HCW.out.then x.h)).2.2
    clear qz qq z0 z1 z2 z3 z4 z5 z6 z7 z8 y4
    simp only [List.append_eq, List.cons_append, List.nil_append]
    refine wp_held_lit (w0 := w9) (by kernel_rfl) (lex_of (by kernel_rfl) (by as_aux_lemma => kernel_rfl)) (Chg.refl _ _) ?_
    repeat (go_big_quiet_step (first
      | (go_at_call 13; exact quiet_held (HWK.out _ (Held.h _)))
      | (go_at_call 14; exact quiet_held (HGO.out _))
      | (go_at_call 15; exact quiet_still (HR7.out _))
      | (go_at_call 16; exact quiet_still (no_flush _ none 1 (.inl ⟨rfl, rfl⟩)))
      | (go_at_call 17; exact quiet_still (no_snap _ none 1 (.inl ⟨rfl, rfl⟩)))
      | (go_at_call 18; exact quiet_still (no_release _ m4))
      | (go_at_call 19; exact quiet_still (no_seq _))
      | (go_at_call 20; exact quiet_still (no_held _ none 1 (.inl ⟨rfl, rfl⟩)))
      | (go_at_call 21; exact quiet_still (no_budget _))
      | (go_at_call 22; exact quiet_held (no_version _))
      | (go_at_call 23; exact quiet_held (HNF.out _))))
    refine wpQuiet_nil ?_
    rintro _ ⟨x, rfl⟩
    go_wp2_with fail
    go_meet
    exact ⟨rfl, x.h⟩
  case rest =>
    obtain ⟨rfl, hk⟩ := hcut
    have hcn := HCW.out.then hk
    clear HCW hk z0 z1 z2 z3 z4 z5 z6 z7 z8 q1 q2 q3 q4 y4
    obtain ⟨y2, y3, y4⟩ := HX.out _ hcn
    have HCW := Lib.hid hcn
    clear hcn
    go_wp2_with fail
    go_ret
    exact ⟨rfl, HC2.out.then HCW.out⟩
theorem no_closed {w0 w : World} {p : StP} {Y : Nat → Prop} {F : CfgV} {S : StV} (h : SPostY w0 p Y F (doneS S) w) : NoSt w (some ⟨p.s, 0, none⟩) 15 ∧ w.cell? ⟨p.s, 31, none⟩ = some (.int .u32 1) ∧ Chg (fun _ => False) w0 w ∧ ∃ b, w.cell? ⟨p.s, 10, none⟩ = some (.pointer (some ⟨b, 0, none⟩)) ∧ BudAt w b (doneS S).B := by
  obtain ⟨p', Y', e1, e2, e3, _, hat⟩ := h
  rw [← e1]
  exact ⟨.inr ⟨p'.s, rfl, rfl, hat.blk.cell 30, p'.b, hat.blk.cell 10⟩, hat.blk.cell 31, hat.disk.frame, p'.b, hat.blk.cell 10, hat.cache.bud⟩
set_option maxRecDepth 100000 in
set_option maxHeartbeats 8000000 in
theorem refuses_good (li me bl bi fi ze ba ra m0 m4 : Int) (cv iv : Value) (s1 s2 : ByteArray) (w : World) (ht : Tab w) (he : ErrOk w) (hg : goodC me bl bi fi = true) :
    Calls Tryz.prog 3 #[.agg #[.int .i64 li, .int .i64 me, .int .i64 bl, .int .i64 bi, .int .i64 fi, .int .i64 ze, .int .i64 ba, .int .i64 ra, cv], .agg #[.int .i64 m0, iv, .string s1, .string s2, .int .i64 m4]] w fun e w' => e = .returned (.bool true) ∧ Chg (fun _ => False) w w' := by
  obtain ⟨gc, hgc⟩ : ∃ gc, w.heap.size = gc := ⟨_, rfl⟩
  obtain ⟨w1, hw1⟩ : ∃ w1, w1 = (w.alloc (.cells #[.int .i64 li, .int .i64 me, .int .i64 bl, .int .i64 bi, .int .i64 fi, .int .i64 ze, .int .i64 ba, .int .i64 ra, cv] 24)).alloc (.cells #[.int .i64 m0, iv, .string s1, .string s2, .int .i64 m4] 27) := ⟨_, rfl⟩
  have hc1 : Chg (fun _ => False) w w1 := by rw [hw1]; exact cgS
  have bc : Blk w1 gc 24 #[.int .i64 li, .int .i64 me, .int .i64 bl, .int .i64 bi, .int .i64 fi, .int .i64 ze, .int .i64 ba, .int .i64 ra, cv] := by rw [hw1, ← hgc]; exact (Blk.new _ _ _).alloc _
  have bs : Blk w1 (gc + 1) 27 #[.int .i64 m0, iv, .string s1, .string s2, .int .i64 m4] := by rw [hw1, ← hgc]; exact Blk.new1 _ _ _ _
  obtain ⟨gf, hgf⟩ : ∃ gf, w1.heap.size = gf := ⟨_, rfl⟩
  obtain ⟨w2, hw2⟩ : ∃ w2, w2 = w1.alloc (.cells #[.int .i64 li, .int .i64 me, .int .i64 bl, .int .i64 bi, .int .i64 fi, .int .i64 0, .int .i64 0, .int .i64 0, .slice none 0 0] 31) := ⟨_, rfl⟩
  have hc12 : Chg (fun _ => False) w1 w2 := by rw [hw2]; exact cgS
  have hc2 := hc1.then hc12
  have bf : Blk w2 gf 31 #[.int .i64 li, .int .i64 me, .int .i64 bl, .int .i64 bi, .int .i64 fi, .int .i64 0, .int .i64 0, .int .i64 0, .slice none 0 0] := by rw [hw2, ← hgf]; exact Blk.new _ _ _
  have hx : ∀ W, Chg (fun _ => False) w2 W → W.cell? ⟨gc + 1, 2, none⟩ = some (.string s1) ∧ W.cell? ⟨gc + 1, 3, none⟩ = some (.string s2) ∧ W.cell? ⟨gc + 1, 4, none⟩ = some (.int .i64 m4) := fun W hW => by
    have hb := bs.chg (hc12.then hW) (by simp)
    exact ⟨hb.cell 2, hb.cell 3, hb.cell 4⟩
  have hz : ∀ W, Chg (fun _ => False) w2 W → W.cell? ⟨gf, 0, none⟩ = some (.int .i64 li) ∧ W.cell? ⟨gf, 1, none⟩ = some (.int .i64 me) ∧ W.cell? ⟨gf, 2, none⟩ = some (.int .i64 bl) ∧ W.cell? ⟨gf, 3, none⟩ = some (.int .i64 bi) ∧ W.cell? ⟨gf, 4, none⟩ = some (.int .i64 fi) ∧ W.cell? ⟨gf, 5, none⟩ = some (.int .i64 0) ∧ W.cell? ⟨gf, 6, none⟩ = some (.int .i64 0) ∧ W.cell? ⟨gf, 7, none⟩ = some (.int .i64 0) ∧ W.cell? ⟨gf, 8, none⟩ = some (.slice none 0 0) := fun W hW => by
    have hb := bf.chg hW (by simp)
    exact ⟨hb.cell 0, hb.cell 1, hb.cell 2, hb.cell 3, hb.cell 4, hb.cell 5, hb.cell 6, hb.cell 7, hb.cell 8⟩
  have hq : ∀ W, Chg (fun _ => False) w2 W → W.cell? ⟨gc, 1, none⟩ = some (.int .i64 me) ∧ W.cell? ⟨gc, 2, none⟩ = some (.int .i64 bl) ∧ W.cell? ⟨gc, 3, none⟩ = some (.int .i64 bi) ∧ W.cell? ⟨gc, 4, none⟩ = some (.int .i64 fi) := fun W hW => by
    have hb := bc.chg (hc12.then hW) (by simp)
    exact ⟨hb.cell 1, hb.cell 2, hb.cell 3, hb.cell 4⟩
  have c0 := bc.cell 0
  have c1 := bc.cell 1
  have c2 := bc.cell 2
  have c3 := bc.cell 3
  have c4 := bc.cell 4
  simp at c0 c1 c2 c3 c4
  have hon := fun W => open_nil li me bl bi fi 0 0 0 W
  have HW1 := Lib.hid hw1
  have HW2 := Lib.hid hw2
  have HC2 := Lib.hid hc2
  have HX := Lib.hid hx
  have HZ := Lib.hid hz
  have HQ := Lib.hid hq
  have HON := Lib.hid hon
  have HGC := Lib.hid hgc
  have HGF := Lib.hid hgf
  have HT := Lib.hid ht
  have HE := Lib.hid he
  clear hw1 hw2 hc2 hx hz hq hon hgc hgf ht he
  clear hc1 hc12 bc bs bf
  go_enter Tryz.func3, Tryz.ntmps3
  go_upto_region 1 with fail
  rw [← HW1.out, HGC.out]
  go_upto_region 2 with fail
  rw [← HW2.out, HGF.out]
  clear c0 c1 c2 c3 c4
  obtain ⟨z0, z1, z2, z3, z4, z5, z6, z7, z8⟩ := HZ.out w2 (Chg.refl _ _)
  go_wp2_with fail
  refine (HON.out _).mono ?_
  rintro e w3 ⟨rfl, hc3⟩
  clear z0 z1 z2 z3 z4 z5 z6 z7 z8
  obtain ⟨z0, z1, z2, z3, z4, z5, z6, z7, z8⟩ := HZ.out w3 hc3
  have HCW := Lib.hid hc3
  have HT2 := Lib.hid (HT.out.chg HC2.out)
  have HE2 := Lib.hid (HE.out.chg HC2.out)
  clear hc3 HT HE HON HW1 HW2 HGC HGF
  have hdn := fun W (hW : Chg (fun _ => False) w3 W) => disk_ever w2 W (HCW.out.then hW)
  have hop := fun d W (h : DY w2 W d (startD room2) (fun _ => False)) => st_open w2 W d (startD room2) _ ⟨li, me, bl, bi, fi, 0, 0, 0⟩ h HT2.out HE2.out (fresh room2 (.inr rfl)) hg
  simp only at hop
  have hgo := fun W => conf_good li me bl bi fi 0 0 0 W
  have hr7 := fun W => r7_good me bl bi fi W
  simp only [hg] at hgo hr7
  have HDN := Lib.hid hdn
  have HOP := Lib.hid hop
  have HGO := Lib.hid hgo
  have HR7 := Lib.hid hr7
  clear hdn hop hgo hr7
  go_wp2_with fail
  go_region_held3 (fun w' => w'.cell? ⟨gf, 0, none⟩ = some (.int .i64 li) ∧ w'.cell? ⟨gf, 1, none⟩ = some (.int .i64 me) ∧ w'.cell? ⟨gf, 2, none⟩ = some (.int .i64 bl) ∧ w'.cell? ⟨gf, 3, none⟩ = some (.int .i64 bi) ∧ w'.cell? ⟨gf, 4, none⟩ = some (.int .i64 fi) ∧ w'.cell? ⟨gf, 5, none⟩ = some (.int .i64 0) ∧ w'.cell? ⟨gf, 6, none⟩ = some (.int .i64 0) ∧ w'.cell? ⟨gf, 7, none⟩ = some (.int .i64 0) ∧ w'.cell? ⟨gf, 8, none⟩ = some (.slice none 0 0))
    ((go_split_ands; (try dsimp only); (repeat' with_reducible apply And.intro) <;> (repeat (first | with_reducible assumption | with_reducible refine ky_drew ?_ | with_reducible refine ky_drewN _ ?_ | with_reducible refine ky_chg hk4 ?_))))
    (first | (go_at_call 5; refine (HDN.out _ (by (repeat (first | with_reducible exact Chg.refl _ _ | with_reducible assumption | with_reducible refine Chg.drew ?_)))).mono ?_; rintro e w4 ⟨d, rfl, hd4, hk4⟩) | (go_at_call 4; refine (HOP.out d _ (by (repeat (first | with_reducible exact hd4 | with_reducible refine DY.same ?_ (Chg.drew (Chg.refl _ _)))))).mono ?_; rintro e w5 ⟨p, Y, rfl, _, _, hat5⟩; obtain ⟨u0, u1, u2, u3, u4, u5, u6, u7, u8⟩ := HZ.out w5 hat5.disk.frame))
  have hfr := hat5.disk.frame
  have hxa := HX.out
  have hx5 := fun W (hW : Chg (fun _ => False) w5 W) => HX.out W (hfr.then hW)
  have hz5 := fun W (hW : Chg (fun _ => False) w5 W) => HZ.out W (hfr.then hW)
  have hq5 := fun W (hW : Chg (fun _ => False) w5 W) => HQ.out W (hfr.then hW)
  have ht5 := HT2.out.chg hfr
  have he5 := HE2.out.chg hfr
  have hrf : Chg (fun _ => False) w5 w5 := Chg.refl _ _
  have hc0 := HC2.out
  clear HX HZ HQ HT2 HE2 HCW HDN HOP hd4 hk4 z0 z1 z2 z3 z4 z5 z6 z7 z8 u0 u1 u2 u3 u4 u5 u6 u7 u8
  have HX := Lib.hid hx5
  have HZ := Lib.hid hz5
  have HQ := Lib.hid hq5
  have HT2 := Lib.hid ht5
  have HE2 := Lib.hid he5
  have HCW := Lib.hid hrf
  have HXA := Lib.hid hxa
  have HAT5 := Lib.hid hat5
  have HC0 := Lib.hid hc0
  clear hx5 hz5 hq5 ht5 he5 hrf hxa hat5 hc0
  clear hfr
  have hng := fun W => no_get W none 1 s1 m4 (.inl ⟨rfl, rfl⟩)
  have hnx := fun W => no_next W none 1 s1 s2 m4 (.inl ⟨rfl, rfl⟩)
  have hnf := no_files
  simp only [entA, zeroE] at hng hnx
  have HNG := Lib.hid hng
  have HNX := Lib.hid hnx
  have HNF := Lib.hid hnf
  clear hng hnx hnf
  obtain ⟨y2, y3, y4⟩ := HX.out _ HCW.out
  go_wp2_with fail
  refine (no_commit _ none 1 (.inl ⟨rfl, rfl⟩)).mono ?_
  rintro e w9 ⟨rfl, rfl⟩
  go_wp2_with fail
  refine (HNG.out _).mono ?_
  rintro e w9 ⟨rfl, hk⟩
  have hcn := Chg.then (Chg.then HCW.out (show Chg (fun _ => False) _ _ from cgS)) hk
  clear HCW y2 y3 y4 hk
  obtain ⟨y2, y3, y4⟩ := HX.out _ hcn
  have HCW := Lib.hid hcn
  clear hcn
  have y2 := ky_alloc (.cells #[.string ⟨#[]⟩, .int .i64 0, .bool false, .string ⟨#[]⟩, .int .i64 0] 41) y2
  have y3 := ky_alloc (.cells #[.string ⟨#[]⟩, .int .i64 0, .bool false, .string ⟨#[]⟩, .int .i64 0] 41) y3
  have y4 := ky_alloc (.cells #[.string ⟨#[]⟩, .int .i64 0, .bool false, .string ⟨#[]⟩, .int .i64 0] 41) y4
  go_wp2_with fail
  refine (no_scan _ none 1 s1 s2 m4 9 (.inl ⟨rfl, rfl⟩)).mono ?_
  rintro e w9 ⟨rfl, hk⟩
  have hcn := Chg.then (Chg.then HCW.out (show Chg (fun _ => False) _ _ from cgS)) hk
  clear HCW y2 y3 y4 hk
  obtain ⟨y2, y3, y4⟩ := HX.out _ hcn
  have HCW := Lib.hid hcn
  clear hcn
  go_wp2_with fail
  refine (HNX.out _).mono ?_
  rintro e w9 ⟨rfl, hk⟩
  have hcn := Chg.then (Chg.then HCW.out (show Chg (fun _ => False) _ _ from cgS)) hk
  clear HCW y2 y3 y4 hk
  obtain ⟨y2, y3, y4⟩ := HX.out _ hcn
  have HCW := Lib.hid hcn
  clear hcn
  have y2 := ky_alloc (.cells #[.string ⟨#[]⟩, .int .i64 0, .bool false, .string ⟨#[]⟩, .int .i64 0] 41) y2
  have y3 := ky_alloc (.cells #[.string ⟨#[]⟩, .int .i64 0, .bool false, .string ⟨#[]⟩, .int .i64 0] 41) y3
  have y4 := ky_alloc (.cells #[.string ⟨#[]⟩, .int .i64 0, .bool false, .string ⟨#[]⟩, .int .i64 0] 41) y4
  go_wp2_with fail
  refine (no_step _ none 1 (.inl ⟨rfl, rfl⟩)).mono ?_
  rintro e w9 ⟨rfl, rfl⟩
  go_wp2_with fail
  refine (no_now _ m4).mono ?_
  rintro e w9 ⟨rfl, rfl⟩
  go_wp2_with fail
  refine (no_close _).mono ?_
  rintro e w9 ⟨rfl, hk⟩
  have hcn := Chg.then (Chg.then HCW.out (show Chg (fun _ => False) _ _ from cgS)) hk
  clear HCW y2 y3 y4 hk
  obtain ⟨y2, y3, y4⟩ := HX.out _ hcn
  have HCW := Lib.hid hcn
  clear hcn
  obtain ⟨z0, z1, z2, z3, z4, z5, z6, z7, z8⟩ := HZ.out _ HCW.out
  obtain ⟨q1, q2, q3, q4⟩ := HQ.out _ HCW.out
  have hwk := fun W (hW : Chg (fun _ => False) w9 W) => st_wakes W ((HT2.out.chg HCW.out).chg hW) ((HE2.out.chg HCW.out).chg hW)
  have HWK := Lib.hid hwk
  clear hwk
  clear y2 y3
  go_wp2_with fail
  go_cut [185] (fun r wx => r = .bool false ∧ Chg (fun _ => False) w9 wx)
  case first =>
    have q0 := fun x : Held w9 => (HZ.out x.W (HCW.out.then x.h)).1
    have qz := fun x : Held w9 => (HZ.out x.W (HCW.out.then x.h)).2
    have q1 := fun x : Held w9 => (qz x).1
    have q2 := fun x : Held w9 => (qz x).2.1
    have q3 := fun x : Held w9 => (qz x).2.2.1
    have q4 := fun x : Held w9 => (qz x).2.2.2.1
    have q5 := fun x : Held w9 => (qz x).2.2.2.2.1
    have q6 := fun x : Held w9 => (qz x).2.2.2.2.2.1
    have q7 := fun x : Held w9 => (qz x).2.2.2.2.2.2.1
    have q8 := fun x : Held w9 => (qz x).2.2.2.2.2.2.2
    have qq := fun x : Held w9 => HQ.out x.W (HCW.out.then x.h)
    have p1 := fun x : Held w9 => (qq x).1
    have p2 := fun x : Held w9 => (qq x).2.1
    have p3 := fun x : Held w9 => (qq x).2.2.1
    have p4 := fun x : Held w9 => (qq x).2.2.2
    have p5 := fun x : Held w9 => (HX.out x.W (HCW.out.then x.h)).2.2
    clear qz qq z0 z1 z2 z3 z4 z5 z6 z7 z8 y4
    simp only [List.append_eq, List.cons_append, List.nil_append]
    refine wp_held_lit (w0 := w9) (by kernel_rfl) (lex_of (by kernel_rfl) (by as_aux_lemma => kernel_rfl)) (Chg.refl _ _) ?_
    repeat (go_big_quiet_step (first
      | (go_at_call 13; exact quiet_held (HWK.out _ (Held.h _)))
      | (go_at_call 14; exact quiet_held (HGO.out _))
      | (go_at_call 15; exact quiet_still (HR7.out _))
      | (go_at_call 16; exact quiet_still (no_flush _ none 1 (.inl ⟨rfl, rfl⟩)))
      | (go_at_call 17; exact quiet_still (no_snap _ none 1 (.inl ⟨rfl, rfl⟩)))
      | (go_at_call 18; exact quiet_still (no_release _ m4))
      | (go_at_call 19; exact quiet_still (no_seq _))
      | (go_at_call 20; exact quiet_still (no_held _ none 1 (.inl ⟨rfl, rfl⟩)))
      | (go_at_call 21; exact quiet_still (no_budget _))
      | (go_at_call 22; exact quiet_held (no_version _))
      | (go_at_call 23; exact quiet_held (HNF.out _))))
    refine wpQuiet_nil ?_
    rintro _ ⟨x, rfl⟩
    go_wp2_with fail
    go_meet
    exact ⟨rfl, x.h⟩
  case rest =>
    obtain ⟨rfl, hk⟩ := hcut
    have hcn := HCW.out.then hk
    clear HCW hk z0 z1 z2 z3 z4 z5 z6 z7 z8 q1 q2 q3 q4 y4
    obtain ⟨y2, y3, y4⟩ := HX.out _ hcn
    have HCW := Lib.hid hcn
    clear hcn
    have hat6 := HAT5.out.same HCW.out
    have hcl := close_first w2 _ p Y _ _ hat6 rfl rfl
    have HCL := Lib.hid hcl
    clear hcl
    clear hat6 y2 y3 y4
    go_wp2_with fail
    refine HCL.out.mono ?_
    rintro e w6 ⟨rfl, hS6⟩
    obtain ⟨hno, h31, h26, b, h10, hbu⟩ := no_closed hS6
    have hca := close_again w6 p.s h31
    have HNO := Lib.hid hno
    have H26 := Lib.hid h26
    have H10 := Lib.hid h10
    have HBU := Lib.hid hbu
    have HCA := Lib.hid hca
    clear hno h26 h10 hbu hca
    clear h31 hS6 HCL HAT5
    go_wp2_with fail
    refine HCA.out.mono ?_
    rintro e w7 ⟨rfl, hk7⟩
    have hno7 := HNO.out.chg hk7
    have h10 := ky_chg hk7 H10.out
    have hbu7 := HBU.out.chg hk7 (by simp)
    have h27 := H26.out.then hk7
    have hx7 := fun W (hW : Chg (fun _ => False) w7 W) => HXA.out W (h27.then hW)
    have hus := fun W (hW : Chg (fun _ => False) w7 W) => bud_used b _ W (hbu7.chg hW (by simp))
    have hu0 : ((doneS (loadS (newS (startD room2) li))).B).u = 0 := start_u _ li
    simp only [hu0] at hus
    have h1 := fun W (hW : Chg (fun _ => False) w7 W) => ky_chg hW h10
    have hrf : Chg (fun _ => False) w7 w7 := Chg.refl _ _
    have hcf := HC0.out.then h27
    obtain ⟨y2, y3, y4⟩ := hx7 w7 hrf
    clear HX HCW HNO H26 H10 HBU HCA h10 hbu7 h27 hk7 hu0
    have HNO := Lib.hid hno7
    have HUS := Lib.hid hus
    have H1 := Lib.hid h1
    have HCW := Lib.hid hrf
    have HCF := Lib.hid hcf
    have HX := Lib.hid hx7
    clear hno7 hus h1 hrf hcf hx7
    go_wp2_with fail
    refine (no_commit _ (some ⟨p.s, 0, none⟩) 15 (HNO.out.chg HCW.out)).mono ?_
    rintro e w9 ⟨rfl, rfl⟩
    go_wp2_with fail
    refine (no_get _ (some ⟨p.s, 0, none⟩) 15 s1 m4 (HNO.out.chg HCW.out)).mono ?_
    rintro e w9 ⟨rfl, hk⟩
    have hcn := Chg.then (Chg.then HCW.out (show Chg (fun _ => False) _ _ from cgS)) hk
    clear HCW y2 y3 y4 hk
    obtain ⟨y2, y3, y4⟩ := HX.out _ hcn
    have HCW := Lib.hid hcn
    clear hcn
    go_wp2_with fail
    refine (no_scan _ (some ⟨p.s, 0, none⟩) 15 s1 s2 m4 9 (HNO.out.chg HCW.out)).mono ?_
    rintro e w9 ⟨rfl, hk⟩
    have hcn := Chg.then (Chg.then HCW.out (show Chg (fun _ => False) _ _ from cgS)) hk
    clear HCW y2 y3 y4 hk
    obtain ⟨y2, y3, y4⟩ := HX.out _ hcn
    have HCW := Lib.hid hcn
    clear hcn
    go_wp2_with fail
    refine (no_next _ (some ⟨p.s, 0, none⟩) 15 s1 s2 m4 (HNO.out.chg HCW.out)).mono ?_
    rintro e w9 ⟨rfl, hk⟩
    have hcn := Chg.then (Chg.then HCW.out (show Chg (fun _ => False) _ _ from cgS)) hk
    clear HCW y2 y3 y4 hk
    obtain ⟨y2, y3, y4⟩ := HX.out _ hcn
    have HCW := Lib.hid hcn
    clear hcn
    go_wp2_with fail
    refine (no_step _ (some ⟨p.s, 0, none⟩) 15 (HNO.out.chg HCW.out)).mono ?_
    rintro e w9 ⟨rfl, rfl⟩
    go_wp2_with fail
    refine (no_flush _ (some ⟨p.s, 0, none⟩) 15 (HNO.out.chg HCW.out)).mono ?_
    rintro e w9 ⟨rfl, rfl⟩
    go_wp2_with fail
    refine (no_held _ (some ⟨p.s, 0, none⟩) 15 (HNO.out.chg HCW.out)).mono ?_
    rintro e w9 ⟨rfl, rfl⟩
    go_wp2_with fail
    refine (st_budget _ p.s b (H1.out _ HCW.out)).mono ?_
    rintro e w9 ⟨rfl, rfl⟩
    go_wp2_with fail
    refine (HUS.out _ HCW.out).mono ?_
    rintro e w9 ⟨rfl, rfl⟩
    go_wp2_with fail
    go_ret
    exact ⟨rfl, HCF.out.then HCW.out⟩
theorem store_refuses (li me bl bi fi ze ba ra m0 m4 : Int) (cv iv : Value) (s1 s2 : ByteArray) (w : World) (ht : Tab w) (he : ErrOk w) :
    Calls Tryz.prog 3 #[.agg #[.int .i64 li, .int .i64 me, .int .i64 bl, .int .i64 bi, .int .i64 fi, .int .i64 ze, .int .i64 ba, .int .i64 ra, cv], .agg #[.int .i64 m0, iv, .string s1, .string s2, .int .i64 m4]] w fun e w' => e = .returned (.bool true) ∧ Chg (fun _ => False) w w' := by
  cases hg : goodC me bl bi fi with
  | true => exact refuses_good li me bl bi fi ze ba ra m0 m4 cv iv s1 s2 w ht he hg
  | false => exact refuses_bad li me bl bi fi ze ba ra m0 m4 cv iv s1 s2 w ht he hg
end Go.Proofs.YtljabmkmngbhkaaGreatDoor
