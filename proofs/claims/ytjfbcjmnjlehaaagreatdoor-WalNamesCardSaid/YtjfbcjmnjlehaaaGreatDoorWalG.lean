/-
  The program's logs: with, Create, Remove.
-/
import Derived.Test.YtjfbcjmnjlehaaaGreatDoorWalF
import Derived.Test.YtjfbcjmnjlehaaaGreatDoorWalS
import Derived.Test.YtjfbcjmnjlehaaaGreatDoorWalB
namespace Go.Proofs.YtjfbcjmnjlehaaaGreatDoor
open Go.RowKit
set_option linter.unusedVariables false
set_option linter.unusedSimpArgs false

theorem logN_some (n : Nat) : (logN n).toList.isEmpty = false := str_some (show 0 < (logN n).size by show 0 < 12; omega)
set_option maxRecDepth 100000 in
set_option maxHeartbeats 2000000 in
theorem wal_with (n : Nat) (hn : n < 10) (K : Nat) (caps : Array Value) (P : Value → World → Prop) (Q : Int → World → Prop) (w : World)
    (hcf : ∀ W : World, (callFunc K (#[.string (logN n)] ++ caps)).run Tryz.prog W = .ok (.enter K (#[.string (logN n)] ++ caps)) W)
    (h1 : ∀ W, Chg (fun _ => False) w W → Calls Tryz.prog K (#[.string (logN n)] ++ caps) W fun e w' => ∃ v, e = .returned v ∧ P v w')
    (h2 : ∀ v w', P v w' → Calls Tryz.prog 87 #[v] w' fun e w'' => ∃ m : Int, e = .returned (.int .i64 m) ∧ Q m w'') :
    Calls Tryz.prog 28 #[.int .i64 (n : Int), .func (.func K) #[] caps] w fun e w' => ∃ m : Int, e = .returned (.int .i64 m) ∧ Q m w' := by
  have hne := logN_some n
  have hnm := wal_name n hn w
  obtain ⟨nm, hn'⟩ : ∃ nm, logN n = nm := ⟨_, rfl⟩
  rw [hn'] at hcf h1 hnm hne
  have H1 := Lib.hid h1
  have H2 := Lib.hid h2
  have HNM := Lib.hid hnm
  clear h1 h2 hnm hn'
  go_enter Tryz.func28, Tryz.ntmps28
  go_wp2_with fail
  refine HNM.out.mono ?_
  rintro e w1 ⟨rfl, hc1⟩
  have hcall := H1.out w1 hc1
  have HCALL := Lib.hid hcall
  clear hcall hc1
  go_wp2_with fail
  refine HCALL.out.mono ?_
  rintro e w2 ⟨v, rfl, hp⟩
  have hcall := H2.out v w2 hp
  have HCALL2 := Lib.hid hcall
  clear hcall hp
  go_wp2_with fail
  refine HCALL2.out.mono ?_
  rintro e w3 ⟨m, rfl, hq⟩
  have HQ := Lib.hid hq
  clear hq
  go_wp2_with fail
  go_ret
  exact ⟨m, rfl, HQ.out⟩
theorem PSm.small {m : Nat} {D : DiskV} (h : PSm m D) (hm : m ≤ 100000) : DSmall D := ⟨by have := h.l; omega, by have := h.f; omega, by have := h.n; omega⟩
theorem logN_size (n : Nat) : (logN n).size ≤ maxLen := by show 12 ≤ maxLen; unfold maxLen; omega
def createW (D : DiskV) (n : ByteArray) : Int × DiskV := if (createD D n).1 ≠ 0 then createD D n else syncDirD (createD D n).2
set_option maxRecDepth 100000 in
set_option maxHeartbeats 2000000 in
theorem create_n (n : ByteArray) (d bd : Nat) (w : World) (hb : Blk w bd 29 #[.pointer (some ⟨d, 0, none⟩)]) :
    Calls Tryz.prog 29 #[.string n, .pointer (some ⟨bd, 0, none⟩)] w fun e w' => ∃ v, e = .returned v ∧ ∃ g bn, v = .slice (some ⟨g, 0, none⟩) 2 2 ∧ Blk w' g 76 #[.func (.func 30) #[] #[.pointer (some ⟨bd, 0, none⟩), .pointer (some ⟨bn, 0, none⟩)], .func (.func 32) #[.pointer (some ⟨d, 0, none⟩)] #[]] ∧ Blk w' bn 9 #[.string n] ∧ w.heap.size ≤ g ∧ Chg (fun _ => False) w w' := by
  have hlt := hb.lt
  have x0 := hb.cell 0
  simp at x0
  go_enter Tryz.func29, Tryz.ntmps29
  go_wp2_with fail
  go_ret
  exact ⟨_, rfl, _, _, rfl, Blk.new1 w _ _ _, (Blk.new w _ _).alloc _, by omega, ((Chg.refl _ _).alloc _).alloc _⟩
set_option maxRecDepth 100000 in
set_option maxHeartbeats 2000000 in
theorem create_a (n : ByteArray) (hn : n.size ≤ maxLen) (d bd bn : Nat) (D : DiskV) (Y : Nat → Prop) (w0 w : World) (hD : DSmall D) (h : DY w0 w d D Y) (hb : Blk w bd 29 #[.pointer (some ⟨d, 0, none⟩)]) (hbn : Blk w bn 9 #[.string n]) :
    Calls Tryz.prog 30 #[.pointer (some ⟨bd, 0, none⟩), .pointer (some ⟨bn, 0, none⟩)] w (YPost w0 w d Y (createD D n)) := by
  have hc := y_create w0 d D Y n hn hD w h
  have x0 := hb.cell 0
  have x1 := hbn.cell 0
  simp at x0 x1
  have HC := Lib.hid hc
  clear hc h hb hbn hD
  go_enter Tryz.func30, Tryz.ntmps30
  go_wp2_with fail
  refine HC.out.mono ?_
  rintro e w1 ⟨rfl, hd⟩
  have HD := Lib.hid hd
  clear hd
  go_wp2_with fail
  go_ret
  exact ⟨rfl, HD.out⟩
set_option maxRecDepth 100000 in
set_option maxHeartbeats 2000000 in
theorem wal_create (n m : Nat) (hn : n < 10) (d : Nat) (D : DiskV) (Y : Nat → Prop) (w0 w : World) (hD : PSm m D) (hm : m ≤ 10000) (h : DY w0 w d D Y) :
    Calls Tryz.prog 13 #[.pointer (some ⟨d, 0, none⟩), .int .i64 (n : Int)] w (YPost w0 w d Y (createW D (logN n))) := by
  obtain ⟨w1, hw1⟩ : ∃ w1, w1 = w.alloc (.cells #[.pointer (some ⟨d, 0, none⟩)] 29) := ⟨_, rfl⟩
  have hc1 : Chg (fun _ => False) w w1 := by rw [hw1]; ((repeat (first | exact Chg.refl _ _ | assumption | refine Chg.drewN ?_ _ | refine Chg.drew ?_ | refine Chg.alloc ?_ _ | refine Chg.setCell ?_ (by first | (simp; done) | (simp; omega) | (intro h; simp at h; omega)) _)))
  have hbd : Blk w1 w.heap.size 29 #[.pointer (some ⟨d, 0, none⟩)] := by rw [hw1]; exact Blk.new w _ _
  have hnm := logN_size n
  have hwith := wal_with n hn 29 #[.pointer (some ⟨w.heap.size, 0, none⟩)]
    (fun v w' => ∃ g bn, v = .slice (some ⟨g, 0, none⟩) 2 2 ∧ Blk w' g 76 #[.func (.func 30) #[] #[.pointer (some ⟨w.heap.size, 0, none⟩), .pointer (some ⟨bn, 0, none⟩)], .func (.func 32) #[.pointer (some ⟨d, 0, none⟩)] #[]] ∧ Blk w' bn 9 #[.string (logN n)] ∧ w1.heap.size ≤ g ∧ Chg (fun _ => False) w1 w')
    (fun k w' => k = (createW D (logN n)).1 ∧ DY w0 w' d (createW D (logN n)).2 Y ∧ Kept Y w1 w') w1 (enters _ _ (by kernel_rfl))
    (fun W hW => (create_n (logN n) d w.heap.size W (hbd.chg hW (by simp))).mono fun e w' ⟨v, he, g, bn, h1, h2, h3, h5, h4⟩ => ⟨v, he, g, bn, h1, h2, h3, Nat.le_trans hW.size h5, hW.then h4⟩)
    (fun v w' ⟨g, bn, hv, hg, hbn, hgw, hc⟩ => by
      subst hv
      have hY := h.grow (hc1.then hc)
      have hlg := hg.lt
      have hln := hbn.lt
      have hgY : ∀ k, w.heap.size ≤ k → k < w'.heap.size → (fun k => Y k ∨ (w.heap.size ≤ k ∧ k < w'.heap.size)) k := fun k a b => .inr ⟨a, b⟩
      have hbd' := hbd.chg hc (by simp)
      refine (wal_first2 g 30 32 #[] #[.pointer (some ⟨w.heap.size, 0, none⟩), .pointer (some ⟨bn, 0, none⟩)] #[.pointer (some ⟨d, 0, none⟩)] #[]
        (fun k W => k = (createD D (logN n)).1 ∧ DY w0 W d (createD D (logN n)).2 (fun k => Y k ∨ (w.heap.size ≤ k ∧ k < w'.heap.size)) ∧ Kept (fun k => Y k ∨ (w.heap.size ≤ k ∧ k < w'.heap.size)) w' W)
        (fun k W => (createD D (logN n)).1 = 0 ∧ k = (syncDirD (createD D (logN n)).2).1 ∧ DY w0 W d (syncDirD (createD D (logN n)).2).2 (fun k => Y k ∨ (w.heap.size ≤ k ∧ k < w'.heap.size)) ∧ Kept (fun k => Y k ∨ (w.heap.size ≤ k ∧ k < w'.heap.size)) w' W)
        w' hg (enters _ _ (by kernel_rfl)) (enters _ _ (by kernel_rfl)) ?_ ?_ ?_).mono ?_
      · exact (create_a (logN n) hnm d w.heap.size bn D _ w0 w' (hD.small (by omega)) hY hbd' hbn).mono fun e W ⟨he, hd, hk⟩ => ⟨_, he, rfl, hd, hk⟩
      · rintro _ W ⟨_, hd, hk⟩
        exact hg.kept hk (.inr ⟨Nat.le_trans hc1.size hgw, hlg⟩)
      · rintro W ⟨h0, hd, hk⟩
        exact (y_syncdir w0 d _ _ ((p_bsm_create (logN n) hD).small (by omega)) W hd).mono fun e W' ⟨he, hd', hk'⟩ => ⟨_, he, h0.symm, rfl, hd', hk.then hk'⟩
      · rintro e W ⟨k, he, hk⟩
        refine ⟨k, he, ?_⟩
        rcases hk with ⟨hne, rfl, hd, hkp⟩ | ⟨h0, rfl, hd, hkp⟩
        · unfold createW
          rw [if_pos hne]
          exact ⟨rfl, hd.mono fun k hk => .inl hk, (Kept.of_chg hc).then (hkp.mono fun k hk => .inl hk)⟩
        · unfold createW
          rw [if_neg (by rw [h0]; simp)]
          exact ⟨rfl, hd.mono fun k hk => .inl hk, (Kept.of_chg hc).then (hkp.mono fun k hk => .inl hk)⟩)
  have HWITH := Lib.hid hwith
  have HW1 := Lib.hid hw1
  have HC1 := Lib.hid hc1
  clear hwith hw1 hc1 hbd h hD
  go_enter Tryz.func13, Tryz.ntmps13
  go_upto_region 1 with fail
  rw [← HW1.out]
  go_wp2_with fail
  refine HWITH.out.mono ?_
  rintro e w2 ⟨k, rfl, rfl, hd, hk⟩
  have HD := Lib.hid hd
  have HK := Lib.hid ((Kept.of_chg HC1.out).then hk)
  clear hd hk
  go_wp2_with fail
  go_ret
  exact ⟨rfl, HD.out, HK.out⟩
def removeW (D : DiskV) (n : ByteArray) : Int × DiskV := if (removeD D n).1 ≠ 0 then removeD D n else syncDirD (removeD D n).2
set_option maxRecDepth 100000 in
set_option maxHeartbeats 2000000 in
theorem remove_n (n : ByteArray) (d bd : Nat) (w : World) (hb : Blk w bd 29 #[.pointer (some ⟨d, 0, none⟩)]) :
    Calls Tryz.prog 49 #[.string n, .pointer (some ⟨bd, 0, none⟩)] w fun e w' => ∃ v, e = .returned v ∧ ∃ g bn, v = .slice (some ⟨g, 0, none⟩) 2 2 ∧ Blk w' g 76 #[.func (.func 50) #[] #[.pointer (some ⟨bd, 0, none⟩), .pointer (some ⟨bn, 0, none⟩)], .func (.func 32) #[.pointer (some ⟨d, 0, none⟩)] #[]] ∧ Blk w' bn 9 #[.string n] ∧ w.heap.size ≤ g ∧ Chg (fun _ => False) w w' := by
  have hlt := hb.lt
  have x0 := hb.cell 0
  simp at x0
  go_enter Tryz.func49, Tryz.ntmps49
  go_wp2_with fail
  go_ret
  exact ⟨_, rfl, _, _, rfl, Blk.new1 w _ _ _, (Blk.new w _ _).alloc _, by omega, ((Chg.refl _ _).alloc _).alloc _⟩
set_option maxRecDepth 100000 in
set_option maxHeartbeats 2000000 in
theorem remove_a (n : ByteArray) (hn : n.size ≤ maxLen) (d bd bn : Nat) (D : DiskV) (Y : Nat → Prop) (w0 w : World) (hD : DSmall D) (h : DY w0 w d D Y) (hb : Blk w bd 29 #[.pointer (some ⟨d, 0, none⟩)]) (hbn : Blk w bn 9 #[.string n]) :
    Calls Tryz.prog 50 #[.pointer (some ⟨bd, 0, none⟩), .pointer (some ⟨bn, 0, none⟩)] w (YPost w0 w d Y (removeD D n)) := by
  have hc := y_remove w0 d D Y n hn hD w h
  have x0 := hb.cell 0
  have x1 := hbn.cell 0
  simp at x0 x1
  have HC := Lib.hid hc
  clear hc h hb hbn hD
  go_enter Tryz.func50, Tryz.ntmps50
  go_wp2_with fail
  refine HC.out.mono ?_
  rintro e w1 ⟨rfl, hd⟩
  have HD := Lib.hid hd
  clear hd
  go_wp2_with fail
  go_ret
  exact ⟨rfl, HD.out⟩
set_option maxRecDepth 100000 in
set_option maxHeartbeats 2000000 in
theorem wal_remove (n m : Nat) (hn : n < 10) (d : Nat) (D : DiskV) (Y : Nat → Prop) (w0 w : World) (hD : PSm m D) (hm : m ≤ 10000) (h : DY w0 w d D Y) :
    Calls Tryz.prog 19 #[.pointer (some ⟨d, 0, none⟩), .int .i64 (n : Int)] w (YPost w0 w d Y (removeW D (logN n))) := by
  obtain ⟨w1, hw1⟩ : ∃ w1, w1 = w.alloc (.cells #[.pointer (some ⟨d, 0, none⟩)] 29) := ⟨_, rfl⟩
  have hc1 : Chg (fun _ => False) w w1 := by rw [hw1]; ((repeat (first | exact Chg.refl _ _ | assumption | refine Chg.drewN ?_ _ | refine Chg.drew ?_ | refine Chg.alloc ?_ _ | refine Chg.setCell ?_ (by first | (simp; done) | (simp; omega) | (intro h; simp at h; omega)) _)))
  have hbd : Blk w1 w.heap.size 29 #[.pointer (some ⟨d, 0, none⟩)] := by rw [hw1]; exact Blk.new w _ _
  have hnm := logN_size n
  have hwith := wal_with n hn 49 #[.pointer (some ⟨w.heap.size, 0, none⟩)]
    (fun v w' => ∃ g bn, v = .slice (some ⟨g, 0, none⟩) 2 2 ∧ Blk w' g 76 #[.func (.func 50) #[] #[.pointer (some ⟨w.heap.size, 0, none⟩), .pointer (some ⟨bn, 0, none⟩)], .func (.func 32) #[.pointer (some ⟨d, 0, none⟩)] #[]] ∧ Blk w' bn 9 #[.string (logN n)] ∧ w1.heap.size ≤ g ∧ Chg (fun _ => False) w1 w')
    (fun k w' => k = (removeW D (logN n)).1 ∧ DY w0 w' d (removeW D (logN n)).2 Y ∧ Kept Y w1 w') w1 (enters _ _ (by kernel_rfl))
    (fun W hW => (remove_n (logN n) d w.heap.size W (hbd.chg hW (by simp))).mono fun e w' ⟨v, he, g, bn, h1, h2, h3, h5, h4⟩ => ⟨v, he, g, bn, h1, h2, h3, Nat.le_trans hW.size h5, hW.then h4⟩)
    (fun v w' ⟨g, bn, hv, hg, hbn, hgw, hc⟩ => by
      subst hv
      have hY := h.grow (hc1.then hc)
      have hlg := hg.lt
      have hln := hbn.lt
      have hgY : ∀ k, w.heap.size ≤ k → k < w'.heap.size → (fun k => Y k ∨ (w.heap.size ≤ k ∧ k < w'.heap.size)) k := fun k a b => .inr ⟨a, b⟩
      have hbd' := hbd.chg hc (by simp)
      refine (wal_first2 g 50 32 #[] #[.pointer (some ⟨w.heap.size, 0, none⟩), .pointer (some ⟨bn, 0, none⟩)] #[.pointer (some ⟨d, 0, none⟩)] #[]
        (fun k W => k = (removeD D (logN n)).1 ∧ DY w0 W d (removeD D (logN n)).2 (fun k => Y k ∨ (w.heap.size ≤ k ∧ k < w'.heap.size)) ∧ Kept (fun k => Y k ∨ (w.heap.size ≤ k ∧ k < w'.heap.size)) w' W)
        (fun k W => (removeD D (logN n)).1 = 0 ∧ k = (syncDirD (removeD D (logN n)).2).1 ∧ DY w0 W d (syncDirD (removeD D (logN n)).2).2 (fun k => Y k ∨ (w.heap.size ≤ k ∧ k < w'.heap.size)) ∧ Kept (fun k => Y k ∨ (w.heap.size ≤ k ∧ k < w'.heap.size)) w' W)
        w' hg (enters _ _ (by kernel_rfl)) (enters _ _ (by kernel_rfl)) ?_ ?_ ?_).mono ?_
      · exact (remove_a (logN n) hnm d w.heap.size bn D _ w0 w' (hD.small (by omega)) hY hbd' hbn).mono fun e W ⟨he, hd, hk⟩ => ⟨_, he, rfl, hd, hk⟩
      · rintro _ W ⟨_, hd, hk⟩
        exact hg.kept hk (.inr ⟨Nat.le_trans hc1.size hgw, hlg⟩)
      · rintro W ⟨h0, hd, hk⟩
        exact (y_syncdir w0 d _ _ ((p_bsm_remove (logN n) hD).small (by omega)) W hd).mono fun e W' ⟨he, hd', hk'⟩ => ⟨_, he, h0.symm, rfl, hd', hk.then hk'⟩
      · rintro e W ⟨k, he, hk⟩
        refine ⟨k, he, ?_⟩
        rcases hk with ⟨hne, rfl, hd, hkp⟩ | ⟨h0, rfl, hd, hkp⟩
        · unfold removeW
          rw [if_pos hne]
          exact ⟨rfl, hd.mono fun k hk => .inl hk, (Kept.of_chg hc).then (hkp.mono fun k hk => .inl hk)⟩
        · unfold removeW
          rw [if_neg (by rw [h0]; simp)]
          exact ⟨rfl, hd.mono fun k hk => .inl hk, (Kept.of_chg hc).then (hkp.mono fun k hk => .inl hk)⟩)
  have HWITH := Lib.hid hwith
  have HW1 := Lib.hid hw1
  have HC1 := Lib.hid hc1
  clear hwith hw1 hc1 hbd h hD
  go_enter Tryz.func19, Tryz.ntmps19
  go_upto_region 1 with fail
  rw [← HW1.out]
  go_wp2_with fail
  refine HWITH.out.mono ?_
  rintro e w2 ⟨k, rfl, rfl, hd, hk⟩
  have HD := Lib.hid hd
  have HK := Lib.hid ((Kept.of_chg HC1.out).then hk)
  clear hd hk
  go_wp2_with fail
  go_ret
  exact ⟨rfl, HD.out, HK.out⟩
end Go.Proofs.YtjfbcjmnjlehaaaGreatDoor
