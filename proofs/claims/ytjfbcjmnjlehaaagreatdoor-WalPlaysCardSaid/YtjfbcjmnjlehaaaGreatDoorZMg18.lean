/-
  The program's logs: with, Create, Remove.
  The program's logs: Append.
-/
import Derived.Test.YtjfbcjmnjlehaaaGreatDoorZMg16
import Derived.Test.YtjfbcjmnjlehaaaGreatDoorZMg17
namespace Go.Proofs.YtjfbcjmnjlehaaaGreatDoor
open Go.RowKit
set_option linter.unusedVariables false
set_option linter.unusedSimpArgs false

theorem logN_some (n : Nat) : (logN n).toList.isEmpty = false := str_some (show 0 < (logN n).size by show 0 < 12; omega)
set_option maxRecDepth 100000 in
set_option maxHeartbeats 2000000 in
theorem wal_with_g (n : Int) (nm : ByteArray) (hne : nm.toList.isEmpty = false) (K : Nat) (caps : Array Value) (P : Value → World → Prop) (Q : Int → World → Prop) (w : World) (hnm : Calls Tryz.prog 10 #[.int .i64 n] w fun e w' => e = .returned (.string nm) ∧ Chg (fun _ => False) w w')
    (hcf : ∀ W : World, (callFunc K (#[.string nm] ++ caps)).run Tryz.prog W = .ok (.enter K (#[.string nm] ++ caps)) W)
    (h1 : ∀ W, Chg (fun _ => False) w W → Calls Tryz.prog K (#[.string nm] ++ caps) W fun e w' => ∃ v, e = .returned v ∧ P v w')
    (h2 : ∀ v w', P v w' → Calls Tryz.prog 87 #[v] w' fun e w'' => ∃ m : Int, e = .returned (.int .i64 m) ∧ Q m w'') :
    Calls Tryz.prog 28 #[.int .i64 n, .func (.func K) #[] caps] w fun e w' => ∃ m : Int, e = .returned (.int .i64 m) ∧ Q m w' := by
  have H1 := Lib.hid h1
  have H2 := Lib.hid h2
  have HNM := Lib.hid hnm
  clear h1 h2 hnm
  go_enter Tryz.func28, Tryz.ntmps28
  go_wp2_with fail
  refine HNM.out.mono ?_
  rintro e w1 ⟨rfl, hc1⟩
  have hcall := H1.out w1 hc1
  have HCALL := Lib.hid hcall
  clear hcall hc1
  go_wp2_with fail
  refine HCALL.out.mono ?_
  rintro e w2 ⟨v, rfl, hp⟩
  have hcall := H2.out v w2 hp
  have HCALL2 := Lib.hid hcall
  clear hcall hp
  go_wp2_with fail
  refine HCALL2.out.mono ?_
  rintro e w3 ⟨m, rfl, hq⟩
  have HQ := Lib.hid hq
  clear hq
  go_wp2_with fail
  go_ret
  exact ⟨m, rfl, HQ.out⟩
theorem PSm.small {m : Nat} {D : DiskV} (h : PSm m D) (hm : m ≤ 100000) : DSmall D := ⟨by have := h.l; omega, by have := h.f; omega, by have := h.n; omega⟩
theorem logN_size (n : Nat) : (logN n).size ≤ maxLen := by show 12 ≤ maxLen; unfold maxLen; omega
def createW (D : DiskV) (n : ByteArray) : Int × DiskV := if (createD D n).1 ≠ 0 then createD D n else syncDirD (createD D n).2
set_option maxRecDepth 100000 in
set_option maxHeartbeats 2000000 in
theorem create_n (n : ByteArray) (d bd : Nat) (w : World) (hb : Blk w bd 29 #[.pointer (some ⟨d, 0, none⟩)]) :
    Calls Tryz.prog 29 #[.string n, .pointer (some ⟨bd, 0, none⟩)] w fun e w' => ∃ v, e = .returned v ∧ ∃ g bn, v = .slice (some ⟨g, 0, none⟩) 2 2 ∧ Blk w' g 76 #[.func (.func 30) #[] #[.pointer (some ⟨bd, 0, none⟩), .pointer (some ⟨bn, 0, none⟩)], .func (.func 32) #[.pointer (some ⟨d, 0, none⟩)] #[]] ∧ Blk w' bn 9 #[.string n] ∧ w.heap.size ≤ g ∧ Chg (fun _ => False) w w' := by
  have hlt := hb.lt
  have x0 := hb.cell 0
  simp at x0
  go_enter Tryz.func29, Tryz.ntmps29
  go_wp2_with fail
  go_ret
  exact ⟨_, rfl, _, _, rfl, Blk.new1 w _ _ _, (Blk.new w _ _).alloc _, by omega, ((Chg.refl _ _).alloc _).alloc _⟩
set_option maxRecDepth 100000 in
set_option maxHeartbeats 2000000 in
theorem create_a (n : ByteArray) (hn : n.size ≤ maxLen) (d bd bn : Nat) (D : DiskV) (Y : Nat → Prop) (w0 w : World) (hD : DSmall D) (h : DY w0 w d D Y) (hb : Blk w bd 29 #[.pointer (some ⟨d, 0, none⟩)]) (hbn : Blk w bn 9 #[.string n]) :
    Calls Tryz.prog 30 #[.pointer (some ⟨bd, 0, none⟩), .pointer (some ⟨bn, 0, none⟩)] w (YPost w0 w d Y (createD D n)) := by
  have hc := y_create w0 d D Y n hn hD w h
  have x0 := hb.cell 0
  have x1 := hbn.cell 0
  simp at x0 x1
  have HC := Lib.hid hc
  clear hc h hb hbn hD
  go_enter Tryz.func30, Tryz.ntmps30
  go_wp2_with fail
  refine HC.out.mono ?_
  rintro e w1 ⟨rfl, hd⟩
  have HD := Lib.hid hd
  clear hd
  go_wp2_with fail
  go_ret
  exact ⟨rfl, HD.out⟩
set_option maxRecDepth 100000 in
set_option maxHeartbeats 2000000 in
theorem wal_create_g (n : Int) (nm : ByteArray) (hNE : nm.toList.isEmpty = false) (hnm : nm.size ≤ maxLen) (m : Nat) (d : Nat) (D : DiskV) (Y : Nat → Prop) (w0 w : World) (hD : PSm m D) (hm : m ≤ 10000) (h : DY w0 w d D Y) (hNM : ∀ W, Chg (fun _ => False) w W → Calls Tryz.prog 10 #[.int .i64 n] W fun e w' => e = .returned (.string nm) ∧ Chg (fun _ => False) W w') :
    Calls Tryz.prog 13 #[.pointer (some ⟨d, 0, none⟩), .int .i64 n] w (YPost w0 w d Y (createW D nm)) := by
  obtain ⟨w1, hw1⟩ : ∃ w1, w1 = w.alloc (.cells #[.pointer (some ⟨d, 0, none⟩)] 29) := ⟨_, rfl⟩
  have hc1 : Chg (fun _ => False) w w1 := by rw [hw1]; ((repeat (first | exact Chg.refl _ _ | assumption | refine Chg.drewN ?_ _ | refine Chg.drew ?_ | refine Chg.alloc ?_ _ | refine Chg.setCell ?_ (by first | (simp; done) | (simp; omega) | (intro h; simp at h; omega)) _)))
  have hbd : Blk w1 w.heap.size 29 #[.pointer (some ⟨d, 0, none⟩)] := by rw [hw1]; exact Blk.new w _ _
  have hwith := wal_with_g n nm hNE 29 #[.pointer (some ⟨w.heap.size, 0, none⟩)]
    (fun v w' => ∃ g bn, v = .slice (some ⟨g, 0, none⟩) 2 2 ∧ Blk w' g 76 #[.func (.func 30) #[] #[.pointer (some ⟨w.heap.size, 0, none⟩), .pointer (some ⟨bn, 0, none⟩)], .func (.func 32) #[.pointer (some ⟨d, 0, none⟩)] #[]] ∧ Blk w' bn 9 #[.string nm] ∧ w1.heap.size ≤ g ∧ Chg (fun _ => False) w1 w')
    (fun k w' => k = (createW D nm).1 ∧ DY w0 w' d (createW D nm).2 Y ∧ Kept Y w1 w') w1 (hNM w1 hc1) (enters _ _ (by kernel_rfl))
    (fun W hW => (create_n nm d w.heap.size W (hbd.chg hW (by simp))).mono fun e w' ⟨v, he, g, bn, h1, h2, h3, h5, h4⟩ => ⟨v, he, g, bn, h1, h2, h3, Nat.le_trans hW.size h5, hW.then h4⟩)
    (fun v w' ⟨g, bn, hv, hg, hbn, hgw, hc⟩ => by
      subst hv
      have hY := h.grow (hc1.then hc)
      have hlg := hg.lt
      have hln := hbn.lt
      have hgY : ∀ k, w.heap.size ≤ k → k < w'.heap.size → (fun k => Y k ∨ (w.heap.size ≤ k ∧ k < w'.heap.size)) k := fun k a b => .inr ⟨a, b⟩
      have hbd' := hbd.chg hc (by simp)
      refine (wal_first2 g 30 32 #[] #[.pointer (some ⟨w.heap.size, 0, none⟩), .pointer (some ⟨bn, 0, none⟩)] #[.pointer (some ⟨d, 0, none⟩)] #[]
        (fun k W => k = (createD D nm).1 ∧ DY w0 W d (createD D nm).2 (fun k => Y k ∨ (w.heap.size ≤ k ∧ k < w'.heap.size)) ∧ Kept (fun k => Y k ∨ (w.heap.size ≤ k ∧ k < w'.heap.size)) w' W)
        (fun k W => (createD D nm).1 = 0 ∧ k = (syncDirD (createD D nm).2).1 ∧ DY w0 W d (syncDirD (createD D nm).2).2 (fun k => Y k ∨ (w.heap.size ≤ k ∧ k < w'.heap.size)) ∧ Kept (fun k => Y k ∨ (w.heap.size ≤ k ∧ k < w'.heap.size)) w' W)
        w' hg (enters _ _ (by kernel_rfl)) (enters _ _ (by kernel_rfl)) ?_ ?_ ?_).mono ?_
      · exact (create_a nm hnm d w.heap.size bn D _ w0 w' (hD.small (by omega)) hY hbd' hbn).mono fun e W ⟨he, hd, hk⟩ => ⟨_, he, rfl, hd, hk⟩
      · rintro _ W ⟨_, hd, hk⟩
        exact hg.kept hk (.inr ⟨Nat.le_trans hc1.size hgw, hlg⟩)
      · rintro W ⟨h0, hd, hk⟩
        exact (y_syncdir w0 d _ _ ((p_bsm_create nm hD).small (by omega)) W hd).mono fun e W' ⟨he, hd', hk'⟩ => ⟨_, he, h0.symm, rfl, hd', hk.then hk'⟩
      · rintro e W ⟨k, he, hk⟩
        refine ⟨k, he, ?_⟩
        rcases hk with ⟨hne, rfl, hd, hkp⟩ | ⟨h0, rfl, hd, hkp⟩
        · unfold createW
          rw [if_pos hne]
          exact ⟨rfl, hd.mono fun k hk => .inl hk, (Kept.of_chg hc).then (hkp.mono fun k hk => .inl hk)⟩
        · unfold createW
          rw [if_neg (by rw [h0]; simp)]
          exact ⟨rfl, hd.mono fun k hk => .inl hk, (Kept.of_chg hc).then (hkp.mono fun k hk => .inl hk)⟩)
  have HWITH := Lib.hid hwith
  have HW1 := Lib.hid hw1
  have HC1 := Lib.hid hc1
  clear hwith hw1 hc1 hbd h hD
  go_enter Tryz.func13, Tryz.ntmps13
  go_upto_region 1 with fail
  rw [← HW1.out]
  go_wp2_with fail
  refine HWITH.out.mono ?_
  rintro e w2 ⟨k, rfl, rfl, hd, hk⟩
  have HD := Lib.hid hd
  have HK := Lib.hid ((Kept.of_chg HC1.out).then hk)
  clear hd hk
  go_wp2_with fail
  go_ret
  exact ⟨rfl, HD.out, HK.out⟩
theorem wal_create (n m : Nat) (hn : n < 10) (d : Nat) (D : DiskV) (Y : Nat → Prop) (w0 w : World) (hD : PSm m D) (hm : m ≤ 10000) (h : DY w0 w d D Y) :
    Calls Tryz.prog 13 #[.pointer (some ⟨d, 0, none⟩), .int .i64 (n : Int)] w (YPost w0 w d Y (createW D (logN n))) :=
  wal_create_g (n : Int) (logN n) (logN_some n) (logN_size n) m d D Y w0 w hD hm h fun W _ => wal_name n hn W
def removeW (D : DiskV) (n : ByteArray) : Int × DiskV := if (removeD D n).1 ≠ 0 then removeD D n else syncDirD (removeD D n).2
set_option maxRecDepth 100000 in
set_option maxHeartbeats 2000000 in
theorem remove_n (n : ByteArray) (d bd : Nat) (w : World) (hb : Blk w bd 29 #[.pointer (some ⟨d, 0, none⟩)]) :
    Calls Tryz.prog 49 #[.string n, .pointer (some ⟨bd, 0, none⟩)] w fun e w' => ∃ v, e = .returned v ∧ ∃ g bn, v = .slice (some ⟨g, 0, none⟩) 2 2 ∧ Blk w' g 76 #[.func (.func 50) #[] #[.pointer (some ⟨bd, 0, none⟩), .pointer (some ⟨bn, 0, none⟩)], .func (.func 32) #[.pointer (some ⟨d, 0, none⟩)] #[]] ∧ Blk w' bn 9 #[.string n] ∧ w.heap.size ≤ g ∧ Chg (fun _ => False) w w' := by
  have hlt := hb.lt
  have x0 := hb.cell 0
  simp at x0
  go_enter Tryz.func49, Tryz.ntmps49
  go_wp2_with fail
  go_ret
  exact ⟨_, rfl, _, _, rfl, Blk.new1 w _ _ _, (Blk.new w _ _).alloc _, by omega, ((Chg.refl _ _).alloc _).alloc _⟩
set_option maxRecDepth 100000 in
set_option maxHeartbeats 2000000 in
theorem remove_a (n : ByteArray) (hn : n.size ≤ maxLen) (d bd bn : Nat) (D : DiskV) (Y : Nat → Prop) (w0 w : World) (hD : DSmall D) (h : DY w0 w d D Y) (hb : Blk w bd 29 #[.pointer (some ⟨d, 0, none⟩)]) (hbn : Blk w bn 9 #[.string n]) :
    Calls Tryz.prog 50 #[.pointer (some ⟨bd, 0, none⟩), .pointer (some ⟨bn, 0, none⟩)] w (YPost w0 w d Y (removeD D n)) := by
  have hc := y_remove w0 d D Y n hn hD w h
  have x0 := hb.cell 0
  have x1 := hbn.cell 0
  simp at x0 x1
  have HC := Lib.hid hc
  clear hc h hb hbn hD
  go_enter Tryz.func50, Tryz.ntmps50
  go_wp2_with fail
  refine HC.out.mono ?_
  rintro e w1 ⟨rfl, hd⟩
  have HD := Lib.hid hd
  clear hd
  go_wp2_with fail
  go_ret
  exact ⟨rfl, HD.out⟩
set_option maxRecDepth 100000 in
set_option maxHeartbeats 2000000 in
theorem wal_remove_g (n : Int) (nm : ByteArray) (hNE : nm.toList.isEmpty = false) (hnm : nm.size ≤ maxLen) (m : Nat) (d : Nat) (D : DiskV) (Y : Nat → Prop) (w0 w : World) (hD : PSm m D) (hm : m ≤ 10000) (h : DY w0 w d D Y) (hNM : ∀ W, Chg (fun _ => False) w W → Calls Tryz.prog 10 #[.int .i64 n] W fun e w' => e = .returned (.string nm) ∧ Chg (fun _ => False) W w') :
    Calls Tryz.prog 19 #[.pointer (some ⟨d, 0, none⟩), .int .i64 n] w (YPost w0 w d Y (removeW D nm)) := by
  obtain ⟨w1, hw1⟩ : ∃ w1, w1 = w.alloc (.cells #[.pointer (some ⟨d, 0, none⟩)] 29) := ⟨_, rfl⟩
  have hc1 : Chg (fun _ => False) w w1 := by rw [hw1]; ((repeat (first | exact Chg.refl _ _ | assumption | refine Chg.drewN ?_ _ | refine Chg.drew ?_ | refine Chg.alloc ?_ _ | refine Chg.setCell ?_ (by first | (simp; done) | (simp; omega) | (intro h; simp at h; omega)) _)))
  have hbd : Blk w1 w.heap.size 29 #[.pointer (some ⟨d, 0, none⟩)] := by rw [hw1]; exact Blk.new w _ _
  have hwith := wal_with_g n nm hNE 49 #[.pointer (some ⟨w.heap.size, 0, none⟩)]
    (fun v w' => ∃ g bn, v = .slice (some ⟨g, 0, none⟩) 2 2 ∧ Blk w' g 76 #[.func (.func 50) #[] #[.pointer (some ⟨w.heap.size, 0, none⟩), .pointer (some ⟨bn, 0, none⟩)], .func (.func 32) #[.pointer (some ⟨d, 0, none⟩)] #[]] ∧ Blk w' bn 9 #[.string nm] ∧ w1.heap.size ≤ g ∧ Chg (fun _ => False) w1 w')
    (fun k w' => k = (removeW D nm).1 ∧ DY w0 w' d (removeW D nm).2 Y ∧ Kept Y w1 w') w1 (hNM w1 hc1) (enters _ _ (by kernel_rfl))
    (fun W hW => (remove_n nm d w.heap.size W (hbd.chg hW (by simp))).mono fun e w' ⟨v, he, g, bn, h1, h2, h3, h5, h4⟩ => ⟨v, he, g, bn, h1, h2, h3, Nat.le_trans hW.size h5, hW.then h4⟩)
    (fun v w' ⟨g, bn, hv, hg, hbn, hgw, hc⟩ => by
      subst hv
      have hY := h.grow (hc1.then hc)
      have hlg := hg.lt
      have hln := hbn.lt
      have hgY : ∀ k, w.heap.size ≤ k → k < w'.heap.size → (fun k => Y k ∨ (w.heap.size ≤ k ∧ k < w'.heap.size)) k := fun k a b => .inr ⟨a, b⟩
      have hbd' := hbd.chg hc (by simp)
      refine (wal_first2 g 50 32 #[] #[.pointer (some ⟨w.heap.size, 0, none⟩), .pointer (some ⟨bn, 0, none⟩)] #[.pointer (some ⟨d, 0, none⟩)] #[]
        (fun k W => k = (removeD D nm).1 ∧ DY w0 W d (removeD D nm).2 (fun k => Y k ∨ (w.heap.size ≤ k ∧ k < w'.heap.size)) ∧ Kept (fun k => Y k ∨ (w.heap.size ≤ k ∧ k < w'.heap.size)) w' W)
        (fun k W => (removeD D nm).1 = 0 ∧ k = (syncDirD (removeD D nm).2).1 ∧ DY w0 W d (syncDirD (removeD D nm).2).2 (fun k => Y k ∨ (w.heap.size ≤ k ∧ k < w'.heap.size)) ∧ Kept (fun k => Y k ∨ (w.heap.size ≤ k ∧ k < w'.heap.size)) w' W)
        w' hg (enters _ _ (by kernel_rfl)) (enters _ _ (by kernel_rfl)) ?_ ?_ ?_).mono ?_
      · exact (remove_a nm hnm d w.heap.size bn D _ w0 w' (hD.small (by omega)) hY hbd' hbn).mono fun e W ⟨he, hd, hk⟩ => ⟨_, he, rfl, hd, hk⟩
      · rintro _ W ⟨_, hd, hk⟩
        exact hg.kept hk (.inr ⟨Nat.le_trans hc1.size hgw, hlg⟩)
      · rintro W ⟨h0, hd, hk⟩
        exact (y_syncdir w0 d _ _ ((p_bsm_remove nm hD).small (by omega)) W hd).mono fun e W' ⟨he, hd', hk'⟩ => ⟨_, he, h0.symm, rfl, hd', hk.then hk'⟩
      · rintro e W ⟨k, he, hk⟩
        refine ⟨k, he, ?_⟩
        rcases hk with ⟨hne, rfl, hd, hkp⟩ | ⟨h0, rfl, hd, hkp⟩
        · unfold removeW
          rw [if_pos hne]
          exact ⟨rfl, hd.mono fun k hk => .inl hk, (Kept.of_chg hc).then (hkp.mono fun k hk => .inl hk)⟩
        · unfold removeW
          rw [if_neg (by rw [h0]; simp)]
          exact ⟨rfl, hd.mono fun k hk => .inl hk, (Kept.of_chg hc).then (hkp.mono fun k hk => .inl hk)⟩)
  have HWITH := Lib.hid hwith
  have HW1 := Lib.hid hw1
  have HC1 := Lib.hid hc1
  clear hwith hw1 hc1 hbd h hD
  go_enter Tryz.func19, Tryz.ntmps19
  go_upto_region 1 with fail
  rw [← HW1.out]
  go_wp2_with fail
  refine HWITH.out.mono ?_
  rintro e w2 ⟨k, rfl, rfl, hd, hk⟩
  have HD := Lib.hid hd
  have HK := Lib.hid ((Kept.of_chg HC1.out).then hk)
  clear hd hk
  go_wp2_with fail
  go_ret
  exact ⟨rfl, HD.out, HK.out⟩
theorem wal_remove (n m : Nat) (hn : n < 10) (d : Nat) (D : DiskV) (Y : Nat → Prop) (w0 w : World) (hD : PSm m D) (hm : m ≤ 10000) (h : DY w0 w d D Y) :
    Calls Tryz.prog 19 #[.pointer (some ⟨d, 0, none⟩), .int .i64 (n : Int)] w (YPost w0 w d Y (removeW D (logN n))) :=
  wal_remove_g (n : Int) (logN n) (logN_some n) (logN_size n) m d D Y w0 w hD hm h fun W _ => wal_name n hn W
end Go.Proofs.YtjfbcjmnjlehaaaGreatDoor
namespace Go.Proofs.YtjfbcjmnjlehaaaGreatDoor
open Go.RowKit
set_option linter.unusedVariables false
set_option linter.unusedSimpArgs false

/-- The frame of a body, as bytes; and Put's error. -/
def fraBA (b : ByteArray) : ByteArray := ⟨(fraB b.data.toList).toArray⟩
def putV (b : ByteArray) : ByteArray × Int := if 65535 < b.size then (⟨#[]⟩, 5) else (fraBA b, 0)
theorem fra_put_any (b : ByteArray) (w : World) (hb : b.size ≤ 140737488355328) : Calls Tryz.prog 36 #[.string b] w fun e w' => e = .returned (.tuple #[.string (putV b).1, .int .i64 (putV b).2]) ∧ Chg (fun _ => False) w w' := by
  by_cases h : 65535 < b.size
  · have e : putV b = (⟨#[]⟩, 5) := by unfold putV; rw [if_pos h]
    rw [e]
    exact (fra_put_no b w hb h).mono fun e w' ⟨he, hw⟩ => ⟨he, hw ▸ Chg.refl _ _⟩
  · have e : putV b = (fraBA b, 0) := by unfold putV; rw [if_neg h]
    rw [e]
    refine (fra_put b w (by omega)).mono fun e w' ⟨⟨t, ht, he⟩, hc⟩ => ⟨?_, hc⟩
    have : t = fraBA b := by
      apply ByteArray.ext
      apply Array.ext'
      rw [ht]
      rfl
    rw [he, this]
set_option maxRecDepth 100000 in
set_option maxHeartbeats 2000000 in
theorem append_n (n b t : ByteArray) (er : Int) (d bb bd : Nat) (w : World) (hp : putV b = (t, er)) (hbs : b.size ≤ 140737488355328) (hb : Blk w bd 29 #[.pointer (some ⟨d, 0, none⟩)]) (hbb : Blk w bb 9 #[.string b]) :
    Calls Tryz.prog 35 #[.string n, .pointer (some ⟨bb, 0, none⟩), .pointer (some ⟨bd, 0, none⟩)] w fun e w' => ∃ v, e = .returned v ∧ ∃ g be bn bs, v = .slice (some ⟨g, 0, none⟩) 3 3 ∧
      Blk w' g 76 #[.func (.func 37) #[] #[.pointer (some ⟨be, 0, none⟩)], .func (.func 38) #[] #[.pointer (some ⟨bd, 0, none⟩), .pointer (some ⟨bn, 0, none⟩), .pointer (some ⟨bs, 0, none⟩)], .func (.func 40) #[] #[.pointer (some ⟨bd, 0, none⟩), .pointer (some ⟨bn, 0, none⟩)]] ∧
      Blk w' be 38 #[.int .i64 er] ∧ Blk w' bn 9 #[.string n] ∧ Blk w' bs 9 #[.string t] ∧ w.heap.size ≤ g ∧ w.heap.size ≤ be ∧ w.heap.size ≤ bn ∧ w.heap.size ≤ bs ∧ Chg (fun _ => False) w w' := by
  have hlt := hb.lt
  have hltb := hbb.lt
  have y0 := hbb.cell 0
  simp at y0
  obtain ⟨w1, hw1⟩ : ∃ w1, w1 = w.alloc (.cells #[.string n] 9) := ⟨_, rfl⟩
  have hc1 : Chg (fun _ => False) w w1 := by rw [hw1]; ((repeat (first | exact Chg.refl _ _ | assumption | refine Chg.drewN ?_ _ | refine Chg.drew ?_ | refine Chg.alloc ?_ _ | refine Chg.setCell ?_ (by first | (simp; done) | (simp; omega) | (intro h; simp at h; omega)) _)))
  have hbn : Blk w1 w.heap.size 9 #[.string n] := by rw [hw1]; exact Blk.new _ _ _
  have y1 : w1.cell? ⟨bb, 0, none⟩ = some (.string b) := (hbb.chg hc1 (by simp)).cell 0
  have hput := fra_put_any b w1 hbs
  rw [hp] at hput
  have HP := Lib.hid hput
  have HW1 := Lib.hid hw1
  have HC1 := Lib.hid hc1
  have HBN := Lib.hid hbn
  clear hput hb hbb hw1 hc1 hbn hp
  go_enter Tryz.func35, Tryz.ntmps35
  go_upto_region 1 with fail
  rw [← HW1.out]
  go_wp2_with fail
  refine HP.out.mono ?_
  rintro e w2 ⟨rfl, hc2⟩
  have hs2 := hc2.size
  have hs1 := HC1.out.size
  have hnl := HBN.out.lt
  have HC2 := Lib.hid hc2
  clear hc2
  go_wp2_with fail
  go_ret
  exact ⟨_, rfl, _, _, _, _, rfl, Blk.new2 w2 _ _ _ _, (Blk.new1 w2 _ _ _).alloc _, (((HBN.out.chg HC2.out (by simp)).alloc _).alloc _).alloc _, ((Blk.new w2 _ _).alloc _).alloc _, by omega, by omega, by omega, by omega, by have := HC1.out.then HC2.out; ((repeat (first | exact Chg.refl _ _ | assumption | refine Chg.drewN ?_ _ | refine Chg.drew ?_ | refine Chg.alloc ?_ _ | refine Chg.setCell ?_ (by first | (simp; done) | (simp; omega) | (intro h; simp at h; omega)) _)))⟩
def appendW (D : DiskV) (n b : ByteArray) : Int × DiskV := if (putV b).2 ≠ 0 then ((putV b).2, D) else if (appendD D n (putV b).1).1 ≠ 0 then appendD D n (putV b).1 else syncD (appendD D n (putV b).1).2 n
theorem append_a (be : Nat) (er : Int) (w : World) (hb : Blk w be 38 #[.int .i64 er]) : Calls Tryz.prog 37 #[.pointer (some ⟨be, 0, none⟩)] w fun e w' => e = .returned (.int .i64 er) ∧ w = w' := by
  have x0 := hb.cell 0
  simp at x0
  clear hb
  go_enter Tryz.func37, Tryz.ntmps37
  go_wp2_with fail
  go_ret
  exact ⟨rfl, rfl⟩
set_option maxRecDepth 100000 in
set_option maxHeartbeats 2000000 in
theorem append_b (n t : ByteArray) (hn : n.size ≤ maxLen) (ht : t.size ≤ 1000000) (d bd bn bs : Nat) (D : DiskV) (Y : Nat → Prop) (w0 w : World) (hD : DSmall D) (h : DY w0 w d D Y) (hb : Blk w bd 29 #[.pointer (some ⟨d, 0, none⟩)]) (hbn : Blk w bn 9 #[.string n]) (hbs : Blk w bs 9 #[.string t]) :
    Calls Tryz.prog 38 #[.pointer (some ⟨bd, 0, none⟩), .pointer (some ⟨bn, 0, none⟩), .pointer (some ⟨bs, 0, none⟩)] w (YPost w0 w d Y (appendD D n t)) := by
  have hc := y_append w0 d D Y n hn hD w h t (by omega)
  have x0 := hb.cell 0
  have x1 := hbn.cell 0
  have x2 := hbs.cell 0
  simp at x0 x1 x2
  have HC := Lib.hid hc
  clear hc h hb hbn hbs hD
  go_enter Tryz.func38, Tryz.ntmps38
  go_wp2_with fail
  refine HC.out.mono ?_
  rintro e w1 ⟨rfl, hd⟩
  have HD := Lib.hid hd
  clear hd
  go_wp2_with fail
  go_ret
  exact ⟨rfl, HD.out⟩
set_option maxRecDepth 100000 in
set_option maxHeartbeats 2000000 in
theorem append_c (n : ByteArray) (hn : n.size ≤ maxLen) (d bd bn : Nat) (D : DiskV) (Y : Nat → Prop) (w0 w : World) (hD : DSmall D) (h : DY w0 w d D Y) (hb : Blk w bd 29 #[.pointer (some ⟨d, 0, none⟩)]) (hbn : Blk w bn 9 #[.string n]) :
    Calls Tryz.prog 40 #[.pointer (some ⟨bd, 0, none⟩), .pointer (some ⟨bn, 0, none⟩)] w (YPost w0 w d Y (syncD D n)) := by
  have hc := y_sync w0 d D Y n hn hD w h
  have x0 := hb.cell 0
  have x1 := hbn.cell 0
  simp at x0 x1
  have HC := Lib.hid hc
  clear hc h hb hbn hD
  go_enter Tryz.func40, Tryz.ntmps40
  go_wp2_with fail
  refine HC.out.mono ?_
  rintro e w1 ⟨rfl, hd⟩
  have HD := Lib.hid hd
  clear hd
  go_wp2_with fail
  go_ret
  exact ⟨rfl, HD.out⟩
theorem putV_size (b : ByteArray) : (putV b).1.size ≤ 1000000 := by
  unfold putV
  split
  · exact Nat.zero_le _
  · have h := fraB_len b.data.toList
    have h2 : b.data.toList.length = b.size := by rw [Array.length_toList]; rfl
    show (fraB b.data.toList).toArray.size ≤ _
    rw [List.size_toArray, h, h2]
    omega
set_option maxRecDepth 100000 in
set_option maxHeartbeats 2000000 in
theorem wal_append_g (n : Int) (nm : ByteArray) (hNE : nm.toList.isEmpty = false) (hnm : nm.size ≤ maxLen) (m : Nat) (b : ByteArray) (hbz : b.size ≤ 140737488355328) (d : Nat) (D : DiskV) (Y : Nat → Prop) (w0 w : World) (hD : PSm m D) (hm : m ≤ 10000) (h : DY w0 w d D Y) (hNM : ∀ W, Chg (fun _ => False) w W → Calls Tryz.prog 10 #[.int .i64 n] W fun e w' => e = .returned (.string nm) ∧ Chg (fun _ => False) W w') :
    Calls Tryz.prog 15 #[.pointer (some ⟨d, 0, none⟩), .int .i64 n, .string b] w (YPost w0 w d Y (appendW D nm b)) := by
  obtain ⟨w1, hw1⟩ : ∃ w1, w1 = (w.alloc (.cells #[.pointer (some ⟨d, 0, none⟩)] 29)).alloc (.cells #[.string b] 9) := ⟨_, rfl⟩
  have hc1 : Chg (fun _ => False) w w1 := by rw [hw1]; ((repeat (first | exact Chg.refl _ _ | assumption | refine Chg.drewN ?_ _ | refine Chg.drew ?_ | refine Chg.alloc ?_ _ | refine Chg.setCell ?_ (by first | (simp; done) | (simp; omega) | (intro h; simp at h; omega)) _)))
  have hbd : Blk w1 w.heap.size 29 #[.pointer (some ⟨d, 0, none⟩)] := by rw [hw1]; exact (Blk.new w _ _).alloc _
  have hbb : Blk w1 (w.heap.size + 1) 9 #[.string b] := by rw [hw1]; exact Blk.new1 w _ _ _
  obtain ⟨t, er, hp⟩ : ∃ t er, putV b = (t, er) := ⟨_, _, rfl⟩
  have htz : t.size ≤ 1000000 := by have := putV_size b; rw [hp] at this; exact this
  have hW : appendW D nm b = if er ≠ 0 then (er, D) else if (appendD D nm t).1 ≠ 0 then appendD D nm t else syncD (appendD D nm t).2 nm := by unfold appendW; rw [hp]
  have hwith := wal_with_g n nm hNE 35 #[.pointer (some ⟨w.heap.size + 1, 0, none⟩), .pointer (some ⟨w.heap.size, 0, none⟩)]
    (fun v w' => ∃ g be bn bs, v = .slice (some ⟨g, 0, none⟩) 3 3 ∧
      Blk w' g 76 #[.func (.func 37) #[] #[.pointer (some ⟨be, 0, none⟩)], .func (.func 38) #[] #[.pointer (some ⟨w.heap.size, 0, none⟩), .pointer (some ⟨bn, 0, none⟩), .pointer (some ⟨bs, 0, none⟩)], .func (.func 40) #[] #[.pointer (some ⟨w.heap.size, 0, none⟩), .pointer (some ⟨bn, 0, none⟩)]] ∧
      Blk w' be 38 #[.int .i64 er] ∧ Blk w' bn 9 #[.string nm] ∧ Blk w' bs 9 #[.string t] ∧ w1.heap.size ≤ g ∧ w1.heap.size ≤ be ∧ w1.heap.size ≤ bn ∧ w1.heap.size ≤ bs ∧ Chg (fun _ => False) w1 w')
    (fun k w' => k = (appendW D nm b).1 ∧ DY w0 w' d (appendW D nm b).2 Y ∧ Kept Y w1 w') w1 (hNM w1 hc1) (enters _ _ (by kernel_rfl))
    (fun W hW => (append_n nm b t er d (w.heap.size + 1) w.heap.size W hp hbz (hbd.chg hW (by simp)) (hbb.chg hW (by simp))).mono fun e w' ⟨v, he, g, be, bn, bs, h1, h2, h3, h4, h5, h6, h7, h8, h9, h10⟩ => ⟨v, he, g, be, bn, bs, h1, h2, h3, h4, h5, Nat.le_trans hW.size h6, Nat.le_trans hW.size h7, Nat.le_trans hW.size h8, Nat.le_trans hW.size h9, hW.then h10⟩)
    (fun v w' ⟨g, be, bn, bs, hv, hg, hbe, hbn, hbs, q1, q2, q3, q4, hc⟩ => by
      subst hv
      have hY := h.grow (hc1.then hc)
      have hlg := hg.lt
      have hs1 := hc1.size
      have hbd' := hbd.chg hc (by simp)
      have hdl := hbd'.lt
      have hnl := hbn.lt
      have hsl := hbs.lt
      obtain ⟨Z, hZ⟩ : ∃ Z, (fun k => Y k ∨ (w.heap.size ≤ k ∧ k < w'.heap.size)) = Z := ⟨_, rfl⟩
      have hZY : ∀ k, Y k → Z k := fun k hk => by rw [← hZ]; exact .inl hk
      have hZn : ∀ k, w.heap.size ≤ k → k < w'.heap.size → Z k := fun k a b => by rw [← hZ]; exact .inr ⟨a, b⟩
      rw [hZ] at hY
      refine (wal_first3 g 37 38 40 #[] #[.pointer (some ⟨be, 0, none⟩)] #[] #[.pointer (some ⟨w.heap.size, 0, none⟩), .pointer (some ⟨bn, 0, none⟩), .pointer (some ⟨bs, 0, none⟩)] #[] #[.pointer (some ⟨w.heap.size, 0, none⟩), .pointer (some ⟨bn, 0, none⟩)]
        (fun k W => k = er ∧ DY w0 W d D Z ∧ Kept Z w' W)
        (fun k W => er = 0 ∧ k = (appendD D nm t).1 ∧ DY w0 W d (appendD D nm t).2 Z ∧ Kept Z w' W)
        (fun k W => er = 0 ∧ (appendD D nm t).1 = 0 ∧ k = (syncD (appendD D nm t).2 nm).1 ∧ DY w0 W d (syncD (appendD D nm t).2 nm).2 Z ∧ Kept Z w' W)
        w' hg (enters _ _ (by kernel_rfl)) (enters _ _ (by kernel_rfl)) (enters _ _ (by kernel_rfl)) ?_ ?_ ?_ ?_ ?_).mono ?_
      · exact (append_a be er w' hbe).mono fun e W ⟨he, hw⟩ => ⟨_, he, rfl, hw ▸ hY, hw ▸ Kept.refl _ _⟩
      · rintro _ W ⟨_, hd, hk⟩
        exact hg.kept hk (hZn g (by omega) hlg)
      · rintro W ⟨h0, hd, hk⟩
        exact (append_b nm t hnm htz d w.heap.size bn bs D Z w0 W (hD.small (by omega)) hd (hbd'.kept hk (hZn _ (by omega) hdl)) (hbn.kept hk (hZn _ (by omega) hnl)) (hbs.kept hk (hZn _ (by omega) hsl))).mono fun e W' ⟨he, hd', hk'⟩ => ⟨_, he, h0.symm, rfl, hd', hk.then hk'⟩
      · rintro _ W ⟨_, _, hd, hk⟩
        exact hg.kept hk (hZn g (by omega) hlg)
      · rintro W ⟨h0, h1, hd, hk⟩
        exact (append_c nm hnm d w.heap.size bn _ Z w0 W ((p_bsm_append nm t hD).small (by omega)) hd (hbd'.kept hk (hZn _ (by omega) hdl)) (hbn.kept hk (hZn _ (by omega) hnl))).mono fun e W' ⟨he, hd', hk'⟩ => ⟨_, he, h0, h1.symm, rfl, hd', hk.then hk'⟩
      · rintro e W ⟨k, he, hk⟩
        refine ⟨k, he, ?_⟩
        rw [hW]
        rcases hk with ⟨hne, rfl, hd, hkp⟩ | ⟨hne, h0, rfl, hd, hkp⟩ | ⟨h0, h1, rfl, hd, hkp⟩
        · rw [if_pos hne]
          exact ⟨rfl, hd.mono hZY, (Kept.of_chg hc).then (hkp.mono hZY)⟩
        · rw [if_neg (by rw [h0]; simp), if_pos hne]
          exact ⟨rfl, hd.mono hZY, (Kept.of_chg hc).then (hkp.mono hZY)⟩
        · rw [if_neg (by rw [h0]; simp), if_neg (by rw [h1]; simp)]
          exact ⟨rfl, hd.mono hZY, (Kept.of_chg hc).then (hkp.mono hZY)⟩)
  have HWITH := Lib.hid hwith
  have HW1 := Lib.hid hw1
  have HC1 := Lib.hid hc1
  clear hwith hw1 hc1 hbd hbb h hD hW hp
  go_enter Tryz.func15, Tryz.ntmps15
  go_upto_region 1 with fail
  rw [← HW1.out]
  go_wp2_with fail
  refine HWITH.out.mono ?_
  rintro e w2 ⟨k, rfl, rfl, hd, hk⟩
  have HD := Lib.hid hd
  have HK := Lib.hid ((Kept.of_chg HC1.out).then hk)
  clear hd hk
  go_wp2_with fail
  go_ret
  exact ⟨rfl, HD.out, HK.out⟩
theorem wal_append (n m : Nat) (hn : n < 10) (b : ByteArray) (hbz : b.size ≤ 1000000000) (d : Nat) (D : DiskV) (Y : Nat → Prop) (w0 w : World) (hD : PSm m D) (hm : m ≤ 10000) (h : DY w0 w d D Y) :
    Calls Tryz.prog 15 #[.pointer (some ⟨d, 0, none⟩), .int .i64 (n : Int), .string b] w (YPost w0 w d Y (appendW D (logN n) b)) :=
  wal_append_g (n : Int) (logN n) (logN_some n) (logN_size n) m b (by omega) d D Y w0 w hD hm h fun W _ => wal_name n hn W
end Go.Proofs.YtjfbcjmnjlehaaaGreatDoor
