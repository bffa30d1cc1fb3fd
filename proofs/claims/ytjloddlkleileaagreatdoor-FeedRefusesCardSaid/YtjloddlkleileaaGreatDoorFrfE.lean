/-
  The law's configuration: the call returns one.
-/
import Derived.Test.YtjloddlkleileaaGreatDoorFrfD
import Derived.Test.YtjloddlkleileaaGreatDoorFeeG
namespace Go.Proofs.YtjloddlkleileaaGreatDoor
open Go.RowKit
set_option linter.unusedVariables false
set_option linter.unusedSimpArgs false

theorem fc_drew {w : World} {p : Addr} {v : Value} (h : w.cell? p = some v) : w.drew.cell? p = some v := h
theorem fc_alloc {w : World} {p : Addr} {v : Value} (o : Obj) (h : w.cell? p = some v) : (w.alloc o).cell? p = some v := (World.cell?_of_block (w := w) (Below.heap_alloc w o p.block (World.block_lt_of_cell? w p h))).trans h
theorem fc_set {w : World} {p q : Addr} {v u : Value} (hne : p.block ≠ q.block) (h : w.cell? p = some v) : (w.setCell q u).cell? p = some v := (World.cell?_of_block (w := w) (Below.heap_setCell w q u p.block hne)).trans h
set_option maxRecDepth 100000 in
set_option maxHeartbeats 8000000 in
theorem lf_config (n0 n1 n2 n3 n4 n5 n6 : Int) (h0 : -9223372036854775808 ≤ n0 ∧ n0 ≤ 9223372036854775807) (h1 : -9223372036854775808 ≤ n1 ∧ n1 ≤ 9223372036854775807) (h2 : -9223372036854775808 ≤ n2 ∧ n2 ≤ 9223372036854775807) (h3 : -9223372036854775808 ≤ n3 ∧ n3 ≤ 9223372036854775807) (v : Value) (L : List Int) (w : World) (hv : CInts w v L) : Calls Tryz.prog 8 #[.agg #[.int .i64 n0, .int .i64 n1, .int .i64 n2, .int .i64 n3, .int .i64 n4, .int .i64 n5, .int .i64 n6, v]] w fun e w' => (∃ (c0 c1 c2 c3 c4 l0 l1 l2 : Int) (va : Option Addr) (vn vc : Nat), e = .returned (.agg #[.int .i64 c0, .int .i64 c1, .int .i64 c2, .int .i64 c3, .int .i64 c4, .int .i64 l0, .int .i64 l1, .int .i64 l2, .slice va vn vc])) ∧ Chg (fun _ => False) w w' := by
  obtain ⟨r0, ra0, rb0, hA0⟩ := cfg_at n0 9000 h0.1 h0.2 (by omega) (by omega)
  obtain ⟨r1, ra1, rb1, hA1⟩ := cfg_at n1 4096 h1.1 h1.2 (by omega) (by omega)
  obtain ⟨r2, ra2, rb2, hA2⟩ := cfg_at n2 16 h2.1 h2.2 (by omega) (by omega)
  obtain ⟨r3, ra3, rb3, hA3⟩ := cfg_at n3 1048576 h3.1 h3.2 (by omega) (by omega)
  have e0 : IntKind.i64.wrap (4096 + r0) = 4096 + r0 := IntWalk.i64_in _ (by omega)
  have e1 : IntKind.i64.wrap (1 + r1) = 1 + r1 := IntWalk.i64_in _ (by omega)
  have e2 : IntKind.i64.wrap (1 + r2) = 1 + r2 := IntWalk.i64_in _ (by omega)
  have e3 : IntKind.i64.wrap (1 + r3) = 1 + r3 := IntWalk.i64_in _ (by omega)
  obtain ⟨a, cap, rfl, hlc, hl63, hc⟩ := id hv
  obtain ⟨w1, hw1⟩ : ∃ w1, w1 = (w.alloc (.cells #[.int .i64 n0, .int .i64 n1, .int .i64 n2, .int .i64 n3, .int .i64 n4, .int .i64 n5, .int .i64 n6, .slice a L.length cap] 25)).alloc (.cells #[.int .i64 0, .int .i64 0, .int .i64 0, .int .i64 0, .int .i64 0, .int .i64 0, .int .i64 0, .int .i64 0, .slice none 0 0] 41) := ⟨_, rfl⟩
  have hc1 : Chg (fun _ => False) w w1 := by rw [hw1]; ((repeat (first | exact Chg.refl _ _ | assumption | refine Chg.drewN ?_ _ | refine Chg.drew ?_ | refine Chg.alloc ?_ _ | refine Chg.setCell ?_ (by first | (simp; done) | (simp; omega) | (intro h; simp at h; omega)) _)))
  obtain ⟨g, hg⟩ : ∃ g, w.heap.size = g := ⟨_, rfl⟩
  obtain ⟨q, hq⟩ : ∃ q, g + 1 = q := ⟨_, rfl⟩
  have hb1 : Blk w1 g 25 #[.int .i64 n0, .int .i64 n1, .int .i64 n2, .int .i64 n3, .int .i64 n4, .int .i64 n5, .int .i64 n6, .slice a L.length cap] := by rw [hw1, ← hg]; exact (Blk.new _ _ _).alloc _
  have hz1 : Blk w1 q 41 #[.int .i64 0, .int .i64 0, .int .i64 0, .int .i64 0, .int .i64 0, .int .i64 0, .int .i64 0, .int .i64 0, .slice none 0 0] := by rw [hw1, ← hq, ← hg]; exact Blk.new1 _ _ _ _
  have hv1 := hv.same hc1
  have hgq : w.heap.size ≤ q := by omega
  have y0 := hb1.cell 0
  have y1 := hb1.cell 1
  have y2 := hb1.cell 2
  have y3 := hb1.cell 3
  have y4 := hb1.cell 4
  have y5 := hb1.cell 5
  have y6 := hb1.cell 6
  have y7 := hb1.cell 7
  simp at y0 y1 y2 y3 y4 y5 y6 y7
  obtain ⟨kk, hk1, hk2, hkl⟩ : ∃ kk : Nat, kk ≤ L.length ∧ kk ≤ 50 ∧ kk = min L.length 50 := ⟨min L.length 50, by omega, by omega, rfl⟩
  have hkc : kk ≤ cap := by omega
  have hgn : g ≠ q := by omega
  have HW1 := Lib.hid hw1
  have HC1 := Lib.hid hc1
  have HA0 := Lib.hid hA0
  have HA1 := Lib.hid hA1
  have HA2 := Lib.hid hA2
  have HA3 := Lib.hid hA3
  have HV := Lib.hid hv1
  have HZ1 := Lib.hid hz1
  have HK1 := Lib.hid hk1
  have HK2 := Lib.hid hk2
  have HG := Lib.hid hg
  have HQ := Lib.hid hq
  have HGQ := Lib.hid hgq
  clear hw1 hc1 hA0 hA1 hA2 hA3 hv1 hz1 hk1 hk2 hg hq hgq
  clear hv hc hb1
  go_enter Tryz.func8, Tryz.ntmps8
  go_upto_region 2 with fail
  rw [← HW1.out, HG.out, HQ.out]
  have q1 : min (L.length : Int) 50 = (kk : Int) := by omega
  clear hkl ra0 rb0 ra1 rb1 ra2 rb2 ra3 rb3 hlc hl63 h0 h1 h2 h3
  go_region_held3 (fun w' => w'.cell? ⟨g, 0, none⟩ = some (.int .i64 n0) ∧ w'.cell? ⟨g, 1, none⟩ = some (.int .i64 n1) ∧ w'.cell? ⟨g, 2, none⟩ = some (.int .i64 n2) ∧ w'.cell? ⟨g, 3, none⟩ = some (.int .i64 n3) ∧ w'.cell? ⟨g, 4, none⟩ = some (.int .i64 n4) ∧ w'.cell? ⟨g, 5, none⟩ = some (.int .i64 n5) ∧ w'.cell? ⟨g, 6, none⟩ = some (.int .i64 n6) ∧ w'.cell? ⟨g, 7, none⟩ = some (.slice a L.length cap))
    ((go_split_ands; (try dsimp only); (repeat' with_reducible apply And.intro) <;> (repeat (first | with_reducible assumption | with_reducible refine fc_drew ?_ | with_reducible refine fc_alloc _ ?_ | with_reducible refine fc_set (by simp <;> omega) ?_ | with_reducible refine kg_chg h7 ?_ | with_reducible refine kg_chg h63 ?_ | with_reducible refine kg_chg h62 ?_ | with_reducible refine kg_chg h61 ?_ | with_reducible refine kg_chg h60 ?_))))
    (first
      | (go_at_call 20; (with_reducible refine (HA0.out _).mono ?_); rintro e w6 ⟨rfl, h60⟩)
      | (go_at_call 20; (with_reducible refine (HA1.out _).mono ?_); rintro e w6 ⟨rfl, h61⟩)
      | (go_at_call 20; (with_reducible refine (HA2.out _).mono ?_); rintro e w6 ⟨rfl, h62⟩)
      | (go_at_call 20; (with_reducible refine (HA3.out _).mono ?_); rintro e w6 ⟨rfl, h63⟩)
      | (refine step_ints _ (by rfl) _ _ (by rfl) L a cap kk (by rfl) (by rfl) (HV.out.same (by (repeat (first | with_reducible assumption | with_reducible exact Chg.refl _ _ | with_reducible refine Chg.drew ?_ | with_reducible refine Chg.alloc ?_ _ | with_reducible refine Chg.then ?_ h60 | with_reducible refine Chg.then ?_ h61 | with_reducible refine Chg.then ?_ h62 | with_reducible refine Chg.then ?_ h63)))) HK1.out HK2.out ?_; intro av vn vc w7 h7; have hw7 : Chg (fun _ => False) w1 w7 := (by refine Chg.then ?_ h7; (repeat (first | with_reducible assumption | with_reducible exact Chg.refl _ _ | with_reducible refine Chg.drew ?_ | with_reducible refine Chg.alloc ?_ _ | with_reducible refine Chg.then ?_ h60 | with_reducible refine Chg.then ?_ h61 | with_reducible refine Chg.then ?_ h62 | with_reducible refine Chg.then ?_ h63))); have hz := HZ1.out.chg hw7 (by simp); have z0 : w7.cell? ⟨q, 0, none⟩ = some (.int .i64 0) := hz.cell 0; have fz0 := hz.frozen 0; have z1 : w7.cell? ⟨q, 1, none⟩ = some (.int .i64 0) := hz.cell 1; have fz1 := hz.frozen 1; have z2 : w7.cell? ⟨q, 2, none⟩ = some (.int .i64 0) := hz.cell 2; have fz2 := hz.frozen 2; have z3 : w7.cell? ⟨q, 3, none⟩ = some (.int .i64 0) := hz.cell 3; have fz3 := hz.frozen 3; have z4 : w7.cell? ⟨q, 4, none⟩ = some (.int .i64 0) := hz.cell 4; have fz4 := hz.frozen 4; have z5 : w7.cell? ⟨q, 5, none⟩ = some (.int .i64 0) := hz.cell 5; have fz5 := hz.frozen 5; have z6 : w7.cell? ⟨q, 6, none⟩ = some (.int .i64 0) := hz.cell 6; have fz6 := hz.frozen 6; have z7 : w7.cell? ⟨q, 7, none⟩ = some (.int .i64 0) := hz.cell 7; have fz7 := hz.frozen 7; have z8 : w7.cell? ⟨q, 8, none⟩ = some (.slice none 0 0) := hz.cell 8; have fz8 := hz.frozen 8; have HZ7 := Lib.hid hz; have HW7 := Lib.hid hw7; clear hz))
  all_goals
    go_wp2_with fail
    obtain ⟨w8, hw8⟩ : ∃ w8, w8 = ((((((((w7.setCell ⟨q, 0, none⟩ (.int .i64 1073741824)).setCell ⟨q, 1, none⟩ (.int .i64 (4096 + r0))).setCell ⟨q, 2, none⟩ (.int .i64 (1 + r1))).setCell ⟨q, 3, none⟩ (.int .i64 (1 + r2))).setCell ⟨q, 4, none⟩ (.int .i64 (1 + r3))).setCell ⟨q, 5, none⟩ (.int .i64 n4)).setCell ⟨q, 6, none⟩ (.int .i64 n5)).setCell ⟨q, 7, none⟩ (.int .i64 n6)).setCell ⟨q, 8, none⟩ (.slice av vn vc) := ⟨_, rfl⟩
    have hb8 : Blk w8 q 41 #[.int .i64 1073741824, .int .i64 (4096 + r0), .int .i64 (1 + r1), .int .i64 (1 + r2), .int .i64 (1 + r3), .int .i64 n4, .int .i64 n5, .int .i64 n6, .slice av vn vc] := by
      rw [hw8]
      have hz := (((((((((HZ7.out.set_ 0 (.int .i64 1073741824)).set_ 1 (.int .i64 (4096 + r0))).set_ 2 (.int .i64 (1 + r1))).set_ 3 (.int .i64 (1 + r2))).set_ 4 (.int .i64 (1 + r3))).set_ 5 (.int .i64 n4)).set_ 6 (.int .i64 n5)).set_ 7 (.int .i64 n6)).set_ 8 (.slice av vn vc))
      simpa using hz
    have hc8 : Chg (fun k => k = q) w7 w8 := by rw [hw8]; exact Chg.seto (Chg.seto (Chg.seto (Chg.seto (Chg.seto (Chg.seto (Chg.seto (Chg.seto (Chg.seto (Chg.refl _ _)))))))))
    have hcw := (HC1.out.then HW7.out).trans hc8 fun k hk e => by have : k = q := e; have := HGQ.out; omega
    rw [← hw8]
    clear z0 z1 z2 z3 z4 z5 z6 z7 z8 fz0 fz1 fz2 fz3 fz4 fz5 fz6 fz7 fz8
    have t0 := hb8.cell 0
    have t1 := hb8.cell 1
    have t2 := hb8.cell 2
    have t3 := hb8.cell 3
    have t4 := hb8.cell 4
    have t5 := hb8.cell 5
    have t6 := hb8.cell 6
    have t7 := hb8.cell 7
    have t8 := hb8.cell 8
    simp at t0 t1 t2 t3 t4 t5 t6 t7 t8
    exact bodyPost_ret (v := .agg #[.int .i64 1073741824, .int .i64 (4096 + r0), .int .i64 (1 + r1), .int .i64 (1 + r2), .int .i64 (1 + r3), .int .i64 n4, .int .i64 n5, .int .i64 n6, .slice av vn vc]) (by simp [results, Tryz.results8, go_sem, t0, t1, t2, t3, t4, t5, t6, t7, t8]) rfl ⟨⟨_, _, _, _, _, _, _, _, _, _, _, rfl⟩, hcw⟩
end Go.Proofs.YtjloddlkleileaaGreatDoor
