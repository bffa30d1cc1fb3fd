/-
  What a fresh disk tells; a version made out of none by an edit that has no tables.
-/
import Derived.Test.YtljabmkmngbhkaaGreatDoorZStoE
import Derived.Test.YtljabmkmngbhkaaGreatDoorZManD
import Derived.Test.YtljabmkmngbhkaaGreatDoorZMg27
import Derived.Test.YtljabmkmngbhkaaGreatDoorZVerC
namespace Go.Proofs.YtljabmkmngbhkaaGreatDoor
open Go.RowKit
set_option linter.unusedVariables false
set_option linter.unusedSimpArgs false

set_option maxRecDepth 100000 in
set_option maxHeartbeats 4000000 in
theorem ma_counts0 (d : Nat) (D : DiskV) (Y : Nat → Prop) (w0 w : World) (h : DY w0 w d D Y) (hr : (readD D curB).2 = 10) :
    Calls Tryz.prog 137 #[.pointer (some ⟨d, 0, none⟩)] w fun e w' => e = .returned (.tuple #[.string ⟨#[]⟩, .int .i64 0, .int .i64 10]) ∧ Chg (fun _ => False) w w' := by
  have hrd := y_read w0 d D Y curB (by decide) w h
  obtain ⟨⟨s, er⟩, hr2⟩ : ∃ r, readD D curB = r := ⟨_, rfl⟩
  rw [hr2] at hrd hr
  simp only at hrd hr
  subst hr
  have HRD := Lib.hid hrd
  clear hrd
  clear h hr2
  go_enter Tryz.func137, Tryz.ntmps137
  go_wp2_with fail
  refine HRD.out.mono ?_
  rintro e w1 ⟨rfl, hc1⟩
  have HC1 := Lib.hid hc1
  clear hc1
  go_wp2_with fail
  exact bodyPost_ret (v := .tuple #[.string ⟨#[]⟩, .int .i64 0, .int .i64 10]) (by simp [results, Tryz.results137, go_sem]) rfl ⟨rfl, HC1.out⟩
def zVer : Value := .agg #[.slice none 0 0, .slice none 0 0, .slice none 0 0, .slice none 0 0, .int .i64 0, .int .i64 0, .int .i64 0]
set_option maxRecDepth 100000 in
set_option maxHeartbeats 4000000 in
theorem ma_load0 (d : Nat) (D : DiskV) (Y : Nat → Prop) (w0 w : World) (h : DY w0 w d D Y) (hr : (readD D curB).2 = 10) :
    Calls Tryz.prog 63 #[.pointer (some ⟨d, 0, none⟩)] w fun e w' => e = .returned (.tuple #[zVer, .int .i64 0, .int .i64 10]) ∧ Chg (fun _ => False) w w' := by
  obtain ⟨br, hbr⟩ : ∃ br, w.heap.size = br := ⟨_, rfl⟩
  obtain ⟨w1, hw1⟩ : ∃ w1, w1 = (w.alloc (.cells #[.slice none 0 0, .slice none 0 0, .slice none 0 0, .slice none 0 0, .int .i64 0, .int .i64 0, .int .i64 0] 62)).alloc (.cells #[.slice none 0 0, .slice none 0 0, .slice none 0 0, .slice none 0 0, .int .i64 0, .int .i64 0, .int .i64 0] 62) := ⟨_, rfl⟩
  have hc1 : Chg (fun _ => False) w w1 := by rw [hw1]; exact ((Chg.refl _ _).alloc _).alloc _
  have b0 : Blk w1 br 62 #[.slice none 0 0, .slice none 0 0, .slice none 0 0, .slice none 0 0, .int .i64 0, .int .i64 0, .int .i64 0] := by rw [hw1, ← hbr]; exact (Blk.new w _ _).alloc _
  have b1 : Blk w1 (br + 1) 62 #[.slice none 0 0, .slice none 0 0, .slice none 0 0, .slice none 0 0, .int .i64 0, .int .i64 0, .int .i64 0] := by rw [hw1, ← hbr]; exact Blk.new1 w _ _ _
  have hcn := ma_counts0 d D Y w0 w1 (h.same hc1) hr
  unfold zVer
  have HCN := Lib.hid hcn
  have HC1 := Lib.hid hc1
  have HBR := Lib.hid hbr
  have HW1 := Lib.hid hw1
  have B0 := Lib.hid b0
  have B1 := Lib.hid b1
  clear hcn hc1 hbr hw1 b0 b1
  clear h hr
  go_enter Tryz.func63, Tryz.ntmps63
  go_upto_region 2 with fail
  rw [HBR.out]
  rw [← HW1.out]
  go_wp2_with fail
  refine HCN.out.mono ?_
  rintro e w2 ⟨rfl, hc2⟩
  have c0 := B0.out.chg hc2 (by simp)
  have c1 := B1.out.chg hc2 (by simp)
  have hc02 := HC1.out.then hc2
  have k0 : w2.setCell ⟨br, 0, none⟩ (.slice none 0 0) = w2 := set_self c0 0 _ rfl
  have k1 : w2.setCell ⟨br, 1, none⟩ (.slice none 0 0) = w2 := set_self c0 1 _ rfl
  have k2 : w2.setCell ⟨br, 2, none⟩ (.slice none 0 0) = w2 := set_self c0 2 _ rfl
  have k3 : w2.setCell ⟨br, 3, none⟩ (.slice none 0 0) = w2 := set_self c0 3 _ rfl
  have k4 : w2.setCell ⟨br, 4, none⟩ (.int .i64 0) = w2 := set_self c0 4 _ rfl
  have k5 : w2.setCell ⟨br, 5, none⟩ (.int .i64 0) = w2 := set_self c0 5 _ rfl
  have k6 : w2.setCell ⟨br, 6, none⟩ (.int .i64 0) = w2 := set_self c0 6 _ rfl
  have x0 := c0.cell 0
  have x1 := c0.cell 1
  have x2 := c0.cell 2
  have x3 := c0.cell 3
  have x4 := c0.cell 4
  have x5 := c0.cell 5
  have x6 := c0.cell 6
  simp at x0 x1 x2 x3 x4 x5 x6
  have f0 := c0.frozen 0
  have f1 := c0.frozen 1
  have f2 := c0.frozen 2
  have f3 := c0.frozen 3
  have f4 := c0.frozen 4
  have f5 := c0.frozen 5
  have f6 := c0.frozen 6
  have y0 := c1.cell 0
  have y1 := c1.cell 1
  have y2 := c1.cell 2
  have y3 := c1.cell 3
  have y4 := c1.cell 4
  have y5 := c1.cell 5
  have y6 := c1.cell 6
  simp at y0 y1 y2 y3 y4 y5 y6
  have HC02 := Lib.hid hc02
  clear hc02
  clear c0 c1 hc2
  go_wp2_with fail
  exact bodyPost_ret (v := .tuple #[.agg #[.slice none 0 0, .slice none 0 0, .slice none 0 0, .slice none 0 0, .int .i64 0, .int .i64 0, .int .i64 0], .int .i64 0, .int .i64 10]) (by simp [results, Tryz.results63, go_sem, x0, x1, x2, x3, x4, x5, x6]) rfl ⟨rfl, HC02.out⟩
def nilL : Nat → Value := fun _ => .slice none 0 0
theorem nil_ver (w : World) : VerAt w nilL (fun _ => []) := fun _ _ => Lst.nil _ _
def firstV : Value := .agg #[.slice none 0 0, .slice none 0 0, .slice none 0 0, .slice none 0 0, .int .i64 1, .int .i64 2, .int .i64 0]
set_option maxRecDepth 100000 in
set_option maxHeartbeats 4000000 in
theorem ve_apply0 (w : World) : Calls Tryz.prog 72 #[zVer, .agg #[.slice none 0 0, .slice none 0 0, .int .i64 1, .int .i64 2, .int .i64 0]] w fun e w' => e = .returned (.tuple #[firstV, .int .i64 0]) ∧ Chg (fun _ => False) w w' := by
  have hmm : ∀ w : World, (Instr.makeMap 259 none).run Tryz.prog w = .ok (.map (some w.heap.size)) (w.alloc (.map #[] 0)) := fun w => run_makeMap 259 w
  obtain ⟨br, hbr⟩ : ∃ br, w.heap.size = br := ⟨_, rfl⟩
  obtain ⟨w1, hw1⟩ : ∃ w1, w1 = ((w.alloc (.cells #[.slice none 0 0, .slice none 0 0, .slice none 0 0, .slice none 0 0, .int .i64 0, .int .i64 0, .int .i64 0] 62)).alloc (.cells #[.slice none 0 0, .slice none 0 0, .int .i64 1, .int .i64 2, .int .i64 0] 157)).alloc (.cells #[.slice none 0 0, .slice none 0 0, .slice none 0 0, .slice none 0 0, .int .i64 0, .int .i64 0, .int .i64 0] 62) := ⟨_, rfl⟩
  have hc1 : Chg (fun _ => False) w w1 := by rw [hw1]; exact (((Chg.refl _ _).alloc _).alloc _).alloc _
  have b0 : Blk w1 br 62 #[.slice none 0 0, .slice none 0 0, .slice none 0 0, .slice none 0 0, .int .i64 0, .int .i64 0, .int .i64 0] := by rw [hw1, ← hbr]; exact ((Blk.new w _ _).alloc _).alloc _
  have b1 : Blk w1 (br + 1) 157 #[.slice none 0 0, .slice none 0 0, .int .i64 1, .int .i64 2, .int .i64 0] := by rw [hw1, ← hbr]; exact (Blk.new1 w _ _ _).alloc _
  have b2 : Blk w1 (br + 1 + 1) 62 #[.slice none 0 0, .slice none 0 0, .slice none 0 0, .slice none 0 0, .int .i64 0, .int .i64 0, .int .i64 0] := by rw [hw1, ← hbr]; exact Blk.new2 w _ _ _ _
  have hfc := fun W => ver_files nilL (fun _ => []) 0 0 0 W (nil_ver W) (fun i hi => by simp)
  have hF0 : ((filesOf (flatF fun _ => ([] : List MetaV))).mergeSort fun x y => decide (x ≤ y)) = [] := by simp [flatF, filesOf, atLevel]
  unfold FilesPost at hfc
  rw [hF0] at hfc
  have hix := fun (k : Nat) (hk : k < 4) (w : World) => run_index4 nilL hk w
  unfold nilL at hfc hix
  unfold zVer firstV
  have HBR := Lib.hid hbr
  have HW1 := Lib.hid hw1
  have HC1 := Lib.hid hc1
  have B0 := Lib.hid b0
  have B1 := Lib.hid b1
  have B2 := Lib.hid b2
  have HFC := Lib.hid hfc
  have HIX := Lib.hid hix
  clear hbr hw1 hc1 b0 b1 b2 hfc hix
  go_enter Tryz.func72, Tryz.ntmps72
  go_upto_region 1 with fail
  rw [HBR.out]
  rw [← HW1.out]
  have c0 := B0.out
  have c1 := B1.out
  have x0 := c0.cell 0
  have x1 := c0.cell 1
  have x2 := c0.cell 2
  have x3 := c0.cell 3
  have x4 := c0.cell 4
  have x5 := c0.cell 5
  have x6 := c0.cell 6
  simp at x0 x1 x2 x3 x4 x5 x6
  have y0 := c1.cell 0
  have y1 := c1.cell 1
  have y2 := c1.cell 2
  have y3 := c1.cell 3
  have y4 := c1.cell 4
  simp at y0 y1 y2 y3 y4
  clear c0 c1
  obtain ⟨w2, hw2⟩ : ∃ w2, w2 = w1.alloc (.map #[] 0) := ⟨_, rfl⟩
  have hc2 : Chg (fun _ => False) w1 w2 := by rw [hw2]; exact (Chg.refl _ _).alloc _
  have z0 := ky_chg hc2 x0
  have z1 := ky_chg hc2 x1
  have z2 := ky_chg hc2 x2
  have z3 := ky_chg hc2 x3
  have z4 := ky_chg hc2 x4
  have z5 := ky_chg hc2 x5
  have z6 := ky_chg hc2 x6
  have HW2 := Lib.hid hw2
  have HC2 := Lib.hid hc2
  clear hw2 hc2
  go_upto_region 4 with fail
  rw [← HW2.out]
  go_wp2_with fail
  refine (HFC.out _).mono ?_
  rintro e w3 ⟨fv, rfl, hO, hk, hc3⟩
  obtain ⟨fa, fcap, rfl, _, _, _⟩ := i64_form hO
  have hc13 := HC2.out.then hc3
  obtain ⟨w4, hw4⟩ : ∃ w4, w4 = w3.alloc (.map #[] 0) := ⟨_, rfl⟩
  have hc14 : Chg (fun _ => False) w1 w4 := by rw [hw4]; exact hc13.alloc _
  have u0 := ky_chg hc14 y0
  have u1 := ky_chg hc14 y1
  have u2 := ky_chg hc14 y2
  have u3 := ky_chg hc14 y3
  have u4 := ky_chg hc14 y4
  obtain ⟨b5, hb5⟩ : ∃ b5, w4.heap.size = b5 := ⟨_, rfl⟩
  obtain ⟨w5, hw5⟩ : ∃ w5, w5 = w4.alloc (.cells #[.slice none 0 0, .slice none 0 0, .slice none 0 0, .slice none 0 0, .int .i64 1, .int .i64 2, .int .i64 0] 62) := ⟨_, rfl⟩
  have hc45 : Chg (fun _ => False) w4 w5 := by rw [hw5]; exact (Chg.refl _ _).alloc _
  have hc15 := hc14.then hc45
  have b5b : Blk w5 b5 62 #[.slice none 0 0, .slice none 0 0, .slice none 0 0, .slice none 0 0, .int .i64 1, .int .i64 2, .int .i64 0] := by rw [hw5, ← hb5]; exact Blk.new _ _ _
  have v0 := ky_chg hc15 x0
  have v1 := ky_chg hc15 x1
  have v2 := ky_chg hc15 x2
  have v3 := ky_chg hc15 x3
  have t0 := ky_chg hc15 y0
  have HC13 := Lib.hid hc13
  have HC14 := Lib.hid hc14
  have HC15 := Lib.hid hc15
  have HW4 := Lib.hid hw4
  have HW5 := Lib.hid hw5
  have HB5 := Lib.hid hb5
  have B5B := Lib.hid b5b
  clear hc13 hc14 hc15 hw4 hw5 hb5 b5b
  clear hO hk hc3 z0 z1 z2 z3 z4 z5 z6 hc45
  go_wp2_with fail
  go_loopw [60] (fun i wr => i = .int .i64 0 ∧ w3 = wr) (fun _ _ => 0)
  case atStart => exact ⟨rfl, rfl⟩
  case round =>
    obtain ⟨rfl, rfl⟩ := hrel
    go_upto_region 10 with fail
    rw [← HW4.out]
    go_wp2_with fail
    go_loopw [73] (fun i wr => i = .int .i64 0 ∧ w4 = wr) (fun _ _ => 0)
    case atStart => exact ⟨rfl, rfl⟩
    case round =>
      obtain ⟨rfl, rfl⟩ := hrel
      go_upto_region 18 with fail
      rw [HB5.out]
      rw [← HW5.out]
      go_wp2_with fail
      go_loopw [102] (fun i wr => ∃ k : Nat, k ≤ 4 ∧ i = .int .i64 k ∧ w5 = wr) (fun i _ => 4 - (intOf i).toNat)
      case atStart => exact ⟨0, by omega, rfl, rfl⟩
      case round =>
        obtain ⟨k, hk4, rfl, rfl⟩ := hrel
        by_cases hlt : k < 4
        · have hix := HIX.out k hlt
          have hltI : (k : Int) < 4 := by omega
          have hge : (0 : Int) ≤ (k : Int) := by omega
          have hi := IntWalk.i64_in ((k : Int) + 1) (by omega)
          go_wp2_with fail
          go_loopw [108] (fun i wr => i = .int .i64 0 ∧ w5 = wr) (fun _ _ => 0)
          case atStart => exact ⟨rfl, rfl⟩
          case round =>
            obtain ⟨rfl, rfl⟩ := hrel
            go_wp2_with fail
            go_roundw
            case rel => exact ⟨k + 1, by omega, by go_num, by first | trivial | rfl⟩
            case measure => simp [intOf]; omega
        · have hk : k = 4 := by omega
          subst hk
          clear hlt hk4
          go_wp2_with fail
          go_loopw [132] (fun i wr => i = .int .i64 0 ∧ w5 = wr) (fun _ _ => 0)
          case atStart => exact ⟨rfl, rfl⟩
          case round =>
            obtain ⟨rfl, rfl⟩ := hrel
            have hso := ver_sort b5 nilL (fun _ => []) 1 2 0 w5 B5B.out (nil_ver w5) (fun i j k _ _ _ e => by simp [nilL, Value.ownBlock] at e) (fun i hi => by simp)
            have HSO := Lib.hid hso
            clear hso
            go_wp2_with fail
            refine HSO.out.mono ?_
            rintro e w6 ⟨r, rfl, hc6, _, hr⟩
            have hrt : r = true := by
              cases r with
              | true => rfl
              | false =>
                obtain ⟨i, l, _, _, hp, _, hn⟩ := hr rfl
                have : l = [] := List.perm_nil.1 hp
                subst this
                exact absurd (fun i a b ha hb => by simp at ha) hn
            subst hrt
            have hc56 : Chg (fun _ => False) w5 w6 := hc6.mono fun k _ ⟨i, hi, e⟩ => by simp [nilL, Value.ownBlock] at e
            have hc16 := HC15.out.then hc56
            have hcf := HC1.out.then hc16
            have c2 := B2.out.chg hc16 (by simp)
            have c5 := B5B.out.chg hc56 (by simp)
            clear x0 x1 x2 x3 x4 x5 x6 y0 y1 y2 y3 y4
            have x0 := c2.cell 0
            have x1 := c2.cell 1
            have x2 := c2.cell 2
            have x3 := c2.cell 3
            have x4 := c2.cell 4
            have x5 := c2.cell 5
            have x6 := c2.cell 6
            simp at x0 x1 x2 x3 x4 x5 x6
            have f0 := c2.frozen 0
            have f1 := c2.frozen 1
            have f2 := c2.frozen 2
            have f3 := c2.frozen 3
            have f4 := c2.frozen 4
            have f5 := c2.frozen 5
            have f6 := c2.frozen 6
            have y0 := c5.cell 0
            have y1 := c5.cell 1
            have y2 := c5.cell 2
            have y3 := c5.cell 3
            have y4 := c5.cell 4
            have y5 := c5.cell 5
            have y6 := c5.cell 6
            simp at y0 y1 y2 y3 y4 y5 y6
            have C2 := Lib.hid c2
            have HCF := Lib.hid hcf
            clear c2 hcf
            clear hc6 hr hc56 hc16 c5
            go_wp2_with fail
            have hz := (((((((C2.out.set_ 0 (.slice none 0 0)).set_ 1 (.slice none 0 0)).set_ 2 (.slice none 0 0)).set_ 3 (.slice none 0 0)).set_ 4 (.int .i64 1)).set_ 5 (.int .i64 2)).set_ 6 (.int .i64 0))
            have hbr2 := HBR.out
            have z0 := hz.cell 0
            have z1 := hz.cell 1
            have z2 := hz.cell 2
            have z3 := hz.cell 3
            have z4 := hz.cell 4
            have z5 := hz.cell 5
            have z6 := hz.cell 6
            simp at z0 z1 z2 z3 z4 z5 z6
            have hcz : Chg (fun _ => False) w (((((((w6.setCell ⟨br + 1 + 1, 0, none⟩ (.slice none 0 0)).setCell ⟨br + 1 + 1, 1, none⟩ (.slice none 0 0)).setCell ⟨br + 1 + 1, 2, none⟩ (.slice none 0 0)).setCell ⟨br + 1 + 1, 3, none⟩ (.slice none 0 0)).setCell ⟨br + 1 + 1, 4, none⟩ (.int .i64 1)).setCell ⟨br + 1 + 1, 5, none⟩ (.int .i64 2)).setCell ⟨br + 1 + 1, 6, none⟩ (.int .i64 0)) := by
              have h2 := HCF.out
              repeat (first | with_reducible exact h2 | with_reducible refine Chg.setCell ?_ (by intro h; simp at h; omega) _)
            exact bodyPost_ret (v := .tuple #[.agg #[.slice none 0 0, .slice none 0 0, .slice none 0 0, .slice none 0 0, .int .i64 1, .int .i64 2, .int .i64 0], .int .i64 0]) (by simp [results, Tryz.results72, go_sem, z0, z1, z2, z3, z4, z5, z6]) rfl ⟨rfl, hcz⟩
end Go.Proofs.YtljabmkmngbhkaaGreatDoor
