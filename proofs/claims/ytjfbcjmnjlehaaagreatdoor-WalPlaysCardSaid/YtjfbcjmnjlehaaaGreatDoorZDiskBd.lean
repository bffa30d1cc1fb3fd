/-
  The disk and the document's side by side: one call of both (act), each way of its switch (printed by gen_dact.py).
-/
import Derived.Test.YtjfbcjmnjlehaaaGreatDoorZMg39
import Derived.Deep.RegionHeld3
namespace Go.Proofs.YtjfbcjmnjlehaaaGreatDoor
open Go.RowKit
set_option linter.unusedVariables false
set_option linter.unusedSimpArgs false

def In64 (x : Int) : Prop := -9223372036854775808 ≤ x ∧ x ≤ 9223372036854775807
def Watch (g : Nat) (cs : Array Value) (k : Nat) (o : Obj) : Prop := k = g ∧ o = .cells cs 35 (0, 0)
theorem watch_cell {w0 w : World} {d r g : Nat} {cs : Array Value} {D1 D2 : DiskV} {X : Nat → Prop} (h : Both w0 w d r (Watch g cs) D1 D2 X) (i : Nat) : w.cell? ⟨g, i, none⟩ = cs[i]? := cell_of_row w g i cs _ (0, 0) (h.holds ⟨rfl, rfl⟩)
theorem RInts.keep {w W : World} {v : Value} {l : List Int} (h : RInts w v l) (hc : Chg (fun _ => False) w W) : RInts W v l := by
  obtain ⟨a, c, hv, hl, hb, hr⟩ := h
  refine ⟨a, c, hv, hl, hb, fun h0 => ?_⟩
  obtain ⟨b, off, ha, hx⟩ := hr h0
  refine ⟨b, off, ha, fun i x hi => ?_⟩
  have := hx i x hi
  exact (hc.cell (cell_lt this) (by simp)).trans this
def ActPost (w0 : World) (d r N : Nat) (e : Ending) (w' : World) : Prop := e = .returned (.bool true) ∧ ∃ D', BSm (N + 1) D' ∧ Both w0 w' d r (fun _ _ => False) D' D' (fun _ => False)

set_option maxRecDepth 100000 in
set_option maxHeartbeats 4000000 in
theorem ld_act_createp (w0 : World) (d r : Nat) (D : DiskV) (N : Nat) (hN : N ≤ 999) (Do : Int) (a b : ByteArray) (n m : Int) (bv : Value) (l : List Int) (ha : a.size ≤ 140737488355328) (hb : b.size ≤ 140737488355328) (hn : In64 n) (hm : In64 m) (hl : l.length ≤ 17592186044416)
    (hDo : Do.tmod 12 = 0) (hbs : BSm N D) (w : World) (h : Both w0 w d r (fun _ _ => False) D D (fun _ => False)) (hr : RInts w bv l) :
    Calls Tryz.prog 21 #[.pointer (some ⟨d, 0, none⟩), .pointer (some ⟨r, 0, none⟩), .agg #[.int .i64 Do, .string a, .string b, .int .i64 n, .int .i64 m, bv]] w (ActPost w0 d r N) := by
  obtain ⟨i0, hi0, hz0, hz1, hz2⟩ := info_parts info_int
  have hl2 := hr
  obtain ⟨ba, bc, rfl, _, hlb, _⟩ := hr
  have ham : a.size ≤ maxLen := Nat.le_trans ha (by decide)
  have hbm : b.size ≤ maxLen := Nat.le_trans hb (by decide)
  obtain ⟨hn1, hn2⟩ := hn
  obtain ⟨hm1, hm2⟩ := hm
  obtain ⟨W1, hW1⟩ : ∃ W1, W1 = w.alloc (.cells #[.int .i64 Do, .string a, .string b, .int .i64 n, .int .i64 m, .slice ba l.length bc] 35) := ⟨_, rfl⟩
  have hc1 : Chg (fun _ => False) w W1 := by rw [hW1]; ((repeat (first | exact Chg.refl _ _ | assumption | refine Chg.drewN ?_ _ | refine Chg.drew ?_ | refine Chg.alloc ?_ _ | refine Chg.setCell ?_ (by first | (simp; done) | (simp; omega) | (intro h; simp at h; omega)) _)))
  have hb1 : Blk W1 w.heap.size 35 #[.int .i64 Do, .string a, .string b, .int .i64 n, .int .i64 m, .slice ba l.length bc] := by rw [hW1]; exact Blk.new w _ _
  have hs1 : w.heap.size < W1.heap.size := hb1.lt
  have hs1e : W1.heap.size = w.heap.size + 1 := by rw [hW1]; simp
  have hsrc := fun W (hW : Chg (fun _ => False) w W) => rints_src (w := W) (l := l) (v := .slice ba l.length bc) (hl2.keep hW)
  have HSR := Lib.hid hsrc
  have HW1 := Lib.hid hW1
  have HC1 := Lib.hid hc1
  have HB1 := Lib.hid hb1
  have H := Lib.hid h
  have HBS := Lib.hid hbs
  have HLB := Lib.hid hlb
  have HS1 := Lib.hid hs1e
  have hb10 := hb1.cell 5
  simp at hb10
  clear hsrc hW1 hc1 hb1 h hbs hlb hl2 hs1e
  go_enter Tryz.func21, Tryz.ntmps21
  go_wp2_with (at_builtin; rw [← HW1.out]; refine wpList_own_append _ (by rfl) _ _ _ _ (by rfl) 3 i0 (.int .i64 0) 1 8 Tryz.underlying33 hi0 hz0 hz1 hz2 rfl (.slice none 0 0) 0 [] (by rfl) (Own.nil _ _ _) _ l.length (intCells l) (by rfl) (HSR.out _ HC1.out) (by unfold maxLen; omega) (by omega) ?_)
  intro v' w2 hown hgr hvb
  have hown2 : Own w2 3 1 v' l.length (intCells l) := by simpa using hown
  obtain ⟨va, vc, rfl, _, _, _⟩ := hown2.reads
  have hc2 : Chg (fun _ => False) W1 w2 := (Chg.refl _ _).grown hgr (fun k e _ => by simp [Value.ownBlock] at e)
  have hge : ∀ k, (Value.slice va l.length vc).ownBlock = some k → W1.heap.size ≤ k := fun k hk => by
    rcases hvb with e | e
    · rw [e] at hk; simp [Value.ownBlock] at hk
    · rw [e] at hk; injection hk with hk; omega
  have hb2 := HB1.out.chg hc2 (by simp)
  have hkeep : Both w0 w2 d r (Watch w.heap.size #[.int .i64 Do, .string a, .string b, .int .i64 n, .int .i64 m, .slice ba l.length bc]) D D (fun k => (Value.slice va l.length vc).ownBlock = some k) := H.out.keep (HC1.out.then hc2) (fun k hk => ⟨by have := hge k hk; omega, hown2.lt hk⟩) (fun k o hk => by
    obtain ⟨rfl, rfl⟩ := hk
    exact ⟨Nat.le_refl _, hb2, fun e => by have := hge _ e; omega⟩)
  have HB := Lib.hid hkeep
  have HO := Lib.hid hown2
  have hgl := hb2.lt
  have y1 := hb2.cell 1
  have y2 := hb2.cell 2
  have y3 := hb2.cell 3
  have y4 := hb2.cell 4
  simp at y1 y2 y3 y4
  clear hown hown2 hgr hvb hc2 hge hb2 hkeep HSR HW1 HC1 HB1 H HS1 hb10
  generalize w.heap.size = g at *
  go_wp2_with fail
  go_region_held3 (fun w' => w'.cell? ⟨g, 1, none⟩ = some (.string a))
    (first | (go_keep; done))
    (first
      | (go_at_call 31; refine (bd_create w0 d r _ D D _ N a _ (HB.out.same (by ((repeat (first | exact Chg.refl _ _ | assumption | refine Chg.drewN ?_ _ | refine Chg.drew ?_ | refine Chg.alloc ?_ _ | refine Chg.setCell ?_ (by first | (simp; done) | (simp; omega) | (intro h; simp at h; omega)) _))))) HBS.out (by omega) ham).mono ?_; rintro e w3 ⟨rfl, hb3⟩; have HB3 := Lib.hid hb3; clear hb3; have k3_1 := watch_cell HB3.out 1; simp at k3_1)
      | (go_at_call 33; refine (br_create w0 d r _ (createD D a).2 D _ N a _ (HB3.out.same (by ((repeat (first | exact Chg.refl _ _ | assumption | refine Chg.drewN ?_ _ | refine Chg.drew ?_ | refine Chg.alloc ?_ _ | refine Chg.setCell ?_ (by first | (simp; done) | (simp; omega) | (intro h; simp at h; omega)) _))))) HBS.out (by omega)).mono ?_; rintro e w4 ⟨rfl, hb4⟩; have HB4 := Lib.hid hb4; clear hb4; have k4_1 := watch_cell HB4.out 1; simp at k4_1))
  go_wp2
  go_ret
  refine ⟨?_, _, bsm_create a HBS.out, HB4.out.drop⟩
  simp

set_option maxRecDepth 100000 in
set_option maxHeartbeats 4000000 in
theorem ld_act_appendp (w0 : World) (d r : Nat) (D : DiskV) (N : Nat) (hN : N ≤ 999) (Do : Int) (a b : ByteArray) (n m : Int) (bv : Value) (l : List Int) (ha : a.size ≤ 140737488355328) (hb : b.size ≤ 140737488355328) (hn : In64 n) (hm : In64 m) (hl : l.length ≤ 17592186044416)
    (hDo : Do.tmod 12 = 1) (hbs : BSm N D) (w : World) (h : Both w0 w d r (fun _ _ => False) D D (fun _ => False)) (hr : RInts w bv l) :
    Calls Tryz.prog 21 #[.pointer (some ⟨d, 0, none⟩), .pointer (some ⟨r, 0, none⟩), .agg #[.int .i64 Do, .string a, .string b, .int .i64 n, .int .i64 m, bv]] w (ActPost w0 d r N) := by
  obtain ⟨i0, hi0, hz0, hz1, hz2⟩ := info_parts info_int
  have hl2 := hr
  obtain ⟨ba, bc, rfl, _, hlb, _⟩ := hr
  have ham : a.size ≤ maxLen := Nat.le_trans ha (by decide)
  have hbm : b.size ≤ maxLen := Nat.le_trans hb (by decide)
  obtain ⟨hn1, hn2⟩ := hn
  obtain ⟨hm1, hm2⟩ := hm
  obtain ⟨W1, hW1⟩ : ∃ W1, W1 = w.alloc (.cells #[.int .i64 Do, .string a, .string b, .int .i64 n, .int .i64 m, .slice ba l.length bc] 35) := ⟨_, rfl⟩
  have hc1 : Chg (fun _ => False) w W1 := by rw [hW1]; ((repeat (first | exact Chg.refl _ _ | assumption | refine Chg.drewN ?_ _ | refine Chg.drew ?_ | refine Chg.alloc ?_ _ | refine Chg.setCell ?_ (by first | (simp; done) | (simp; omega) | (intro h; simp at h; omega)) _)))
  have hb1 : Blk W1 w.heap.size 35 #[.int .i64 Do, .string a, .string b, .int .i64 n, .int .i64 m, .slice ba l.length bc] := by rw [hW1]; exact Blk.new w _ _
  have hs1 : w.heap.size < W1.heap.size := hb1.lt
  have hs1e : W1.heap.size = w.heap.size + 1 := by rw [hW1]; simp
  have hsrc := fun W (hW : Chg (fun _ => False) w W) => rints_src (w := W) (l := l) (v := .slice ba l.length bc) (hl2.keep hW)
  have HSR := Lib.hid hsrc
  have HW1 := Lib.hid hW1
  have HC1 := Lib.hid hc1
  have HB1 := Lib.hid hb1
  have H := Lib.hid h
  have HBS := Lib.hid hbs
  have HLB := Lib.hid hlb
  have HS1 := Lib.hid hs1e
  have hb10 := hb1.cell 5
  simp at hb10
  clear hsrc hW1 hc1 hb1 h hbs hlb hl2 hs1e
  go_enter Tryz.func21, Tryz.ntmps21
  go_wp2_with (at_builtin; rw [← HW1.out]; refine wpList_own_append _ (by rfl) _ _ _ _ (by rfl) 3 i0 (.int .i64 0) 1 8 Tryz.underlying33 hi0 hz0 hz1 hz2 rfl (.slice none 0 0) 0 [] (by rfl) (Own.nil _ _ _) _ l.length (intCells l) (by rfl) (HSR.out _ HC1.out) (by unfold maxLen; omega) (by omega) ?_)
  intro v' w2 hown hgr hvb
  have hown2 : Own w2 3 1 v' l.length (intCells l) := by simpa using hown
  obtain ⟨va, vc, rfl, _, _, _⟩ := hown2.reads
  have hc2 : Chg (fun _ => False) W1 w2 := (Chg.refl _ _).grown hgr (fun k e _ => by simp [Value.ownBlock] at e)
  have hge : ∀ k, (Value.slice va l.length vc).ownBlock = some k → W1.heap.size ≤ k := fun k hk => by
    rcases hvb with e | e
    · rw [e] at hk; simp [Value.ownBlock] at hk
    · rw [e] at hk; injection hk with hk; omega
  have hb2 := HB1.out.chg hc2 (by simp)
  have hkeep : Both w0 w2 d r (Watch w.heap.size #[.int .i64 Do, .string a, .string b, .int .i64 n, .int .i64 m, .slice ba l.length bc]) D D (fun k => (Value.slice va l.length vc).ownBlock = some k) := H.out.keep (HC1.out.then hc2) (fun k hk => ⟨by have := hge k hk; omega, hown2.lt hk⟩) (fun k o hk => by
    obtain ⟨rfl, rfl⟩ := hk
    exact ⟨Nat.le_refl _, hb2, fun e => by have := hge _ e; omega⟩)
  have HB := Lib.hid hkeep
  have HO := Lib.hid hown2
  have hgl := hb2.lt
  have y1 := hb2.cell 1
  have y2 := hb2.cell 2
  have y3 := hb2.cell 3
  have y4 := hb2.cell 4
  simp at y1 y2 y3 y4
  clear hown hown2 hgr hvb hc2 hge hb2 hkeep HSR HW1 HC1 HB1 H HS1 hb10
  generalize w.heap.size = g at *
  go_wp2_with fail
  go_region_held3 (fun w' => w'.cell? ⟨g, 1, none⟩ = some (.string a) ∧ w'.cell? ⟨g, 2, none⟩ = some (.string b))
    (first | (go_keep; done))
    (first
      | (go_at_call 39; refine (bd_append w0 d r _ D D _ N a b _ (HB.out.same (by ((repeat (first | exact Chg.refl _ _ | assumption | refine Chg.drewN ?_ _ | refine Chg.drew ?_ | refine Chg.alloc ?_ _ | refine Chg.setCell ?_ (by first | (simp; done) | (simp; omega) | (intro h; simp at h; omega)) _))))) HBS.out (by omega) ham hb).mono ?_; rintro e w3 ⟨rfl, hb3⟩; have HB3 := Lib.hid hb3; clear hb3; have k3_1 := watch_cell HB3.out 1; have k3_2 := watch_cell HB3.out 2; simp at k3_1 k3_2)
      | (go_at_call 43; refine (br_append w0 d r _ (appendD D a b).2 D _ N a b _ (HB3.out.same (by ((repeat (first | exact Chg.refl _ _ | assumption | refine Chg.drewN ?_ _ | refine Chg.drew ?_ | refine Chg.alloc ?_ _ | refine Chg.setCell ?_ (by first | (simp; done) | (simp; omega) | (intro h; simp at h; omega)) _))))) HBS.out (by omega) hb).mono ?_; rintro e w4 ⟨rfl, hb4⟩; have HB4 := Lib.hid hb4; clear hb4; have k4_1 := watch_cell HB4.out 1; have k4_2 := watch_cell HB4.out 2; simp at k4_1 k4_2))
  go_wp2
  go_ret
  refine ⟨?_, _, bsm_append a b HBS.out, HB4.out.drop⟩
  simp

set_option maxRecDepth 100000 in
set_option maxHeartbeats 4000000 in
theorem ld_act_syncp (w0 : World) (d r : Nat) (D : DiskV) (N : Nat) (hN : N ≤ 999) (Do : Int) (a b : ByteArray) (n m : Int) (bv : Value) (l : List Int) (ha : a.size ≤ 140737488355328) (hb : b.size ≤ 140737488355328) (hn : In64 n) (hm : In64 m) (hl : l.length ≤ 17592186044416)
    (hDo : Do.tmod 12 = 2) (hbs : BSm N D) (w : World) (h : Both w0 w d r (fun _ _ => False) D D (fun _ => False)) (hr : RInts w bv l) :
    Calls Tryz.prog 21 #[.pointer (some ⟨d, 0, none⟩), .pointer (some ⟨r, 0, none⟩), .agg #[.int .i64 Do, .string a, .string b, .int .i64 n, .int .i64 m, bv]] w (ActPost w0 d r N) := by
  obtain ⟨i0, hi0, hz0, hz1, hz2⟩ := info_parts info_int
  have hl2 := hr
  obtain ⟨ba, bc, rfl, _, hlb, _⟩ := hr
  have ham : a.size ≤ maxLen := Nat.le_trans ha (by decide)
  have hbm : b.size ≤ maxLen := Nat.le_trans hb (by decide)
  obtain ⟨hn1, hn2⟩ := hn
  obtain ⟨hm1, hm2⟩ := hm
  obtain ⟨W1, hW1⟩ : ∃ W1, W1 = w.alloc (.cells #[.int .i64 Do, .string a, .string b, .int .i64 n, .int .i64 m, .slice ba l.length bc] 35) := ⟨_, rfl⟩
  have hc1 : Chg (fun _ => False) w W1 := by rw [hW1]; ((repeat (first | exact Chg.refl _ _ | assumption | refine Chg.drewN ?_ _ | refine Chg.drew ?_ | refine Chg.alloc ?_ _ | refine Chg.setCell ?_ (by first | (simp; done) | (simp; omega) | (intro h; simp at h; omega)) _)))
  have hb1 : Blk W1 w.heap.size 35 #[.int .i64 Do, .string a, .string b, .int .i64 n, .int .i64 m, .slice ba l.length bc] := by rw [hW1]; exact Blk.new w _ _
  have hs1 : w.heap.size < W1.heap.size := hb1.lt
  have hs1e : W1.heap.size = w.heap.size + 1 := by rw [hW1]; simp
  have hsrc := fun W (hW : Chg (fun _ => False) w W) => rints_src (w := W) (l := l) (v := .slice ba l.length bc) (hl2.keep hW)
  have HSR := Lib.hid hsrc
  have HW1 := Lib.hid hW1
  have HC1 := Lib.hid hc1
  have HB1 := Lib.hid hb1
  have H := Lib.hid h
  have HBS := Lib.hid hbs
  have HLB := Lib.hid hlb
  have HS1 := Lib.hid hs1e
  have hb10 := hb1.cell 5
  simp at hb10
  clear hsrc hW1 hc1 hb1 h hbs hlb hl2 hs1e
  go_enter Tryz.func21, Tryz.ntmps21
  go_wp2_with (at_builtin; rw [← HW1.out]; refine wpList_own_append _ (by rfl) _ _ _ _ (by rfl) 3 i0 (.int .i64 0) 1 8 Tryz.underlying33 hi0 hz0 hz1 hz2 rfl (.slice none 0 0) 0 [] (by rfl) (Own.nil _ _ _) _ l.length (intCells l) (by rfl) (HSR.out _ HC1.out) (by unfold maxLen; omega) (by omega) ?_)
  intro v' w2 hown hgr hvb
  have hown2 : Own w2 3 1 v' l.length (intCells l) := by simpa using hown
  obtain ⟨va, vc, rfl, _, _, _⟩ := hown2.reads
  have hc2 : Chg (fun _ => False) W1 w2 := (Chg.refl _ _).grown hgr (fun k e _ => by simp [Value.ownBlock] at e)
  have hge : ∀ k, (Value.slice va l.length vc).ownBlock = some k → W1.heap.size ≤ k := fun k hk => by
    rcases hvb with e | e
    · rw [e] at hk; simp [Value.ownBlock] at hk
    · rw [e] at hk; injection hk with hk; omega
  have hb2 := HB1.out.chg hc2 (by simp)
  have hkeep : Both w0 w2 d r (Watch w.heap.size #[.int .i64 Do, .string a, .string b, .int .i64 n, .int .i64 m, .slice ba l.length bc]) D D (fun k => (Value.slice va l.length vc).ownBlock = some k) := H.out.keep (HC1.out.then hc2) (fun k hk => ⟨by have := hge k hk; omega, hown2.lt hk⟩) (fun k o hk => by
    obtain ⟨rfl, rfl⟩ := hk
    exact ⟨Nat.le_refl _, hb2, fun e => by have := hge _ e; omega⟩)
  have HB := Lib.hid hkeep
  have HO := Lib.hid hown2
  have hgl := hb2.lt
  have y1 := hb2.cell 1
  have y2 := hb2.cell 2
  have y3 := hb2.cell 3
  have y4 := hb2.cell 4
  simp at y1 y2 y3 y4
  clear hown hown2 hgr hvb hc2 hge hb2 hkeep HSR HW1 HC1 HB1 H HS1 hb10
  generalize w.heap.size = g at *
  go_wp2_with fail
  go_region_held3 (fun w' => w'.cell? ⟨g, 1, none⟩ = some (.string a))
    (first | (go_keep; done))
    (first
      | (go_at_call 41; refine (bd_sync w0 d r _ D D _ N a _ (HB.out.same (by ((repeat (first | exact Chg.refl _ _ | assumption | refine Chg.drewN ?_ _ | refine Chg.drew ?_ | refine Chg.alloc ?_ _ | refine Chg.setCell ?_ (by first | (simp; done) | (simp; omega) | (intro h; simp at h; omega)) _))))) HBS.out (by omega) ham).mono ?_; rintro e w3 ⟨rfl, hb3⟩; have HB3 := Lib.hid hb3; clear hb3; have k3_1 := watch_cell HB3.out 1; simp at k3_1)
      | (go_at_call 44; refine (br_sync w0 d r _ (syncD D a).2 D _ N a _ (HB3.out.same (by ((repeat (first | exact Chg.refl _ _ | assumption | refine Chg.drewN ?_ _ | refine Chg.drew ?_ | refine Chg.alloc ?_ _ | refine Chg.setCell ?_ (by first | (simp; done) | (simp; omega) | (intro h; simp at h; omega)) _))))) HBS.out (by omega)).mono ?_; rintro e w4 ⟨rfl, hb4⟩; have HB4 := Lib.hid hb4; clear hb4; have k4_1 := watch_cell HB4.out 1; simp at k4_1))
  go_wp2
  go_ret
  refine ⟨?_, _, bsm_sync a HBS.out, HB4.out.drop⟩
  simp

set_option maxRecDepth 100000 in
set_option maxHeartbeats 4000000 in
theorem ld_act_syncdirp (w0 : World) (d r : Nat) (D : DiskV) (N : Nat) (hN : N ≤ 999) (Do : Int) (a b : ByteArray) (n m : Int) (bv : Value) (l : List Int) (ha : a.size ≤ 140737488355328) (hb : b.size ≤ 140737488355328) (hn : In64 n) (hm : In64 m) (hl : l.length ≤ 17592186044416)
    (hDo : Do.tmod 12 = 3) (hbs : BSm N D) (w : World) (h : Both w0 w d r (fun _ _ => False) D D (fun _ => False)) (hr : RInts w bv l) :
    Calls Tryz.prog 21 #[.pointer (some ⟨d, 0, none⟩), .pointer (some ⟨r, 0, none⟩), .agg #[.int .i64 Do, .string a, .string b, .int .i64 n, .int .i64 m, bv]] w (ActPost w0 d r N) := by
  obtain ⟨i0, hi0, hz0, hz1, hz2⟩ := info_parts info_int
  have hl2 := hr
  obtain ⟨ba, bc, rfl, _, hlb, _⟩ := hr
  have ham : a.size ≤ maxLen := Nat.le_trans ha (by decide)
  have hbm : b.size ≤ maxLen := Nat.le_trans hb (by decide)
  obtain ⟨hn1, hn2⟩ := hn
  obtain ⟨hm1, hm2⟩ := hm
  obtain ⟨W1, hW1⟩ : ∃ W1, W1 = w.alloc (.cells #[.int .i64 Do, .string a, .string b, .int .i64 n, .int .i64 m, .slice ba l.length bc] 35) := ⟨_, rfl⟩
  have hc1 : Chg (fun _ => False) w W1 := by rw [hW1]; ((repeat (first | exact Chg.refl _ _ | assumption | refine Chg.drewN ?_ _ | refine Chg.drew ?_ | refine Chg.alloc ?_ _ | refine Chg.setCell ?_ (by first | (simp; done) | (simp; omega) | (intro h; simp at h; omega)) _)))
  have hb1 : Blk W1 w.heap.size 35 #[.int .i64 Do, .string a, .string b, .int .i64 n, .int .i64 m, .slice ba l.length bc] := by rw [hW1]; exact Blk.new w _ _
  have hs1 : w.heap.size < W1.heap.size := hb1.lt
  have hs1e : W1.heap.size = w.heap.size + 1 := by rw [hW1]; simp
  have hsrc := fun W (hW : Chg (fun _ => False) w W) => rints_src (w := W) (l := l) (v := .slice ba l.length bc) (hl2.keep hW)
  have HSR := Lib.hid hsrc
  have HW1 := Lib.hid hW1
  have HC1 := Lib.hid hc1
  have HB1 := Lib.hid hb1
  have H := Lib.hid h
  have HBS := Lib.hid hbs
  have HLB := Lib.hid hlb
  have HS1 := Lib.hid hs1e
  have hb10 := hb1.cell 5
  simp at hb10
  clear hsrc hW1 hc1 hb1 h hbs hlb hl2 hs1e
  go_enter Tryz.func21, Tryz.ntmps21
  go_wp2_with (at_builtin; rw [← HW1.out]; refine wpList_own_append _ (by rfl) _ _ _ _ (by rfl) 3 i0 (.int .i64 0) 1 8 Tryz.underlying33 hi0 hz0 hz1 hz2 rfl (.slice none 0 0) 0 [] (by rfl) (Own.nil _ _ _) _ l.length (intCells l) (by rfl) (HSR.out _ HC1.out) (by unfold maxLen; omega) (by omega) ?_)
  intro v' w2 hown hgr hvb
  have hown2 : Own w2 3 1 v' l.length (intCells l) := by simpa using hown
  obtain ⟨va, vc, rfl, _, _, _⟩ := hown2.reads
  have hc2 : Chg (fun _ => False) W1 w2 := (Chg.refl _ _).grown hgr (fun k e _ => by simp [Value.ownBlock] at e)
  have hge : ∀ k, (Value.slice va l.length vc).ownBlock = some k → W1.heap.size ≤ k := fun k hk => by
    rcases hvb with e | e
    · rw [e] at hk; simp [Value.ownBlock] at hk
    · rw [e] at hk; injection hk with hk; omega
  have hb2 := HB1.out.chg hc2 (by simp)
  have hkeep : Both w0 w2 d r (Watch w.heap.size #[.int .i64 Do, .string a, .string b, .int .i64 n, .int .i64 m, .slice ba l.length bc]) D D (fun k => (Value.slice va l.length vc).ownBlock = some k) := H.out.keep (HC1.out.then hc2) (fun k hk => ⟨by have := hge k hk; omega, hown2.lt hk⟩) (fun k o hk => by
    obtain ⟨rfl, rfl⟩ := hk
    exact ⟨Nat.le_refl _, hb2, fun e => by have := hge _ e; omega⟩)
  have HB := Lib.hid hkeep
  have HO := Lib.hid hown2
  have hgl := hb2.lt
  have y1 := hb2.cell 1
  have y2 := hb2.cell 2
  have y3 := hb2.cell 3
  have y4 := hb2.cell 4
  simp at y1 y2 y3 y4
  clear hown hown2 hgr hvb hc2 hge hb2 hkeep HSR HW1 HC1 HB1 H HS1 hb10
  generalize w.heap.size = g at *
  go_wp2_with fail
  refine (bd_syncdir w0 d r _ D D _ N _ HB.out HBS.out (by omega)).mono ?_
  rintro e w3 ⟨rfl, hb3⟩
  have HB3 := Lib.hid hb3
  clear hb3
  go_wp2_with fail
  refine (br_syncdir w0 d r _ (syncDirD D).2 D _ N _ HB3.out HBS.out (by omega)).mono ?_
  rintro e w4 ⟨rfl, hb4⟩
  have HB4 := Lib.hid hb4
  clear hb4
  go_wp2_with fail
  go_ret
  refine ⟨?_, _, bsm_syncdir HBS.out, HB4.out.drop⟩
  simp

set_option maxRecDepth 100000 in
set_option maxHeartbeats 4000000 in
theorem ld_act_renamep (w0 : World) (d r : Nat) (D : DiskV) (N : Nat) (hN : N ≤ 999) (Do : Int) (a b : ByteArray) (n m : Int) (bv : Value) (l : List Int) (ha : a.size ≤ 140737488355328) (hb : b.size ≤ 140737488355328) (hn : In64 n) (hm : In64 m) (hl : l.length ≤ 17592186044416)
    (hDo : Do.tmod 12 = 4) (hbs : BSm N D) (w : World) (h : Both w0 w d r (fun _ _ => False) D D (fun _ => False)) (hr : RInts w bv l) :
    Calls Tryz.prog 21 #[.pointer (some ⟨d, 0, none⟩), .pointer (some ⟨r, 0, none⟩), .agg #[.int .i64 Do, .string a, .string b, .int .i64 n, .int .i64 m, bv]] w (ActPost w0 d r N) := by
  obtain ⟨i0, hi0, hz0, hz1, hz2⟩ := info_parts info_int
  have hl2 := hr
  obtain ⟨ba, bc, rfl, _, hlb, _⟩ := hr
  have ham : a.size ≤ maxLen := Nat.le_trans ha (by decide)
  have hbm : b.size ≤ maxLen := Nat.le_trans hb (by decide)
  obtain ⟨hn1, hn2⟩ := hn
  obtain ⟨hm1, hm2⟩ := hm
  obtain ⟨W1, hW1⟩ : ∃ W1, W1 = w.alloc (.cells #[.int .i64 Do, .string a, .string b, .int .i64 n, .int .i64 m, .slice ba l.length bc] 35) := ⟨_, rfl⟩
  have hc1 : Chg (fun _ => False) w W1 := by rw [hW1]; ((repeat (first | exact Chg.refl _ _ | assumption | refine Chg.drewN ?_ _ | refine Chg.drew ?_ | refine Chg.alloc ?_ _ | refine Chg.setCell ?_ (by first | (simp; done) | (simp; omega) | (intro h; simp at h; omega)) _)))
  have hb1 : Blk W1 w.heap.size 35 #[.int .i64 Do, .string a, .string b, .int .i64 n, .int .i64 m, .slice ba l.length bc] := by rw [hW1]; exact Blk.new w _ _
  have hs1 : w.heap.size < W1.heap.size := hb1.lt
  have hs1e : W1.heap.size = w.heap.size + 1 := by rw [hW1]; simp
  have hsrc := fun W (hW : Chg (fun _ => False) w W) => rints_src (w := W) (l := l) (v := .slice ba l.length bc) (hl2.keep hW)
  have HSR := Lib.hid hsrc
  have HW1 := Lib.hid hW1
  have HC1 := Lib.hid hc1
  have HB1 := Lib.hid hb1
  have H := Lib.hid h
  have HBS := Lib.hid hbs
  have HLB := Lib.hid hlb
  have HS1 := Lib.hid hs1e
  have hb10 := hb1.cell 5
  simp at hb10
  clear hsrc hW1 hc1 hb1 h hbs hlb hl2 hs1e
  go_enter Tryz.func21, Tryz.ntmps21
  go_wp2_with (at_builtin; rw [← HW1.out]; refine wpList_own_append _ (by rfl) _ _ _ _ (by rfl) 3 i0 (.int .i64 0) 1 8 Tryz.underlying33 hi0 hz0 hz1 hz2 rfl (.slice none 0 0) 0 [] (by rfl) (Own.nil _ _ _) _ l.length (intCells l) (by rfl) (HSR.out _ HC1.out) (by unfold maxLen; omega) (by omega) ?_)
  intro v' w2 hown hgr hvb
  have hown2 : Own w2 3 1 v' l.length (intCells l) := by simpa using hown
  obtain ⟨va, vc, rfl, _, _, _⟩ := hown2.reads
  have hc2 : Chg (fun _ => False) W1 w2 := (Chg.refl _ _).grown hgr (fun k e _ => by simp [Value.ownBlock] at e)
  have hge : ∀ k, (Value.slice va l.length vc).ownBlock = some k → W1.heap.size ≤ k := fun k hk => by
    rcases hvb with e | e
    · rw [e] at hk; simp [Value.ownBlock] at hk
    · rw [e] at hk; injection hk with hk; omega
  have hb2 := HB1.out.chg hc2 (by simp)
  have hkeep : Both w0 w2 d r (Watch w.heap.size #[.int .i64 Do, .string a, .string b, .int .i64 n, .int .i64 m, .slice ba l.length bc]) D D (fun k => (Value.slice va l.length vc).ownBlock = some k) := H.out.keep (HC1.out.then hc2) (fun k hk => ⟨by have := hge k hk; omega, hown2.lt hk⟩) (fun k o hk => by
    obtain ⟨rfl, rfl⟩ := hk
    exact ⟨Nat.le_refl _, hb2, fun e => by have := hge _ e; omega⟩)
  have HB := Lib.hid hkeep
  have HO := Lib.hid hown2
  have hgl := hb2.lt
  have y1 := hb2.cell 1
  have y2 := hb2.cell 2
  have y3 := hb2.cell 3
  have y4 := hb2.cell 4
  simp at y1 y2 y3 y4
  clear hown hown2 hgr hvb hc2 hge hb2 hkeep HSR HW1 HC1 HB1 H HS1 hb10
  generalize w.heap.size = g at *
  go_wp2_with fail
  go_region_held3 (fun w' => w'.cell? ⟨g, 1, none⟩ = some (.string a) ∧ w'.cell? ⟨g, 2, none⟩ = some (.string b))
    (first | (go_keep; done))
    (first
      | (go_at_call 53; refine (bd_rename w0 d r _ D D _ N a b _ (HB.out.same (by ((repeat (first | exact Chg.refl _ _ | assumption | refine Chg.drewN ?_ _ | refine Chg.drew ?_ | refine Chg.alloc ?_ _ | refine Chg.setCell ?_ (by first | (simp; done) | (simp; omega) | (intro h; simp at h; omega)) _))))) HBS.out (by omega) ham hbm).mono ?_; rintro e w3 ⟨rfl, hb3⟩; have HB3 := Lib.hid hb3; clear hb3; have k3_1 := watch_cell HB3.out 1; have k3_2 := watch_cell HB3.out 2; simp at k3_1 k3_2)
      | (go_at_call 54; refine (br_rename w0 d r _ (renameD D a b).2 D _ N a b _ (HB3.out.same (by ((repeat (first | exact Chg.refl _ _ | assumption | refine Chg.drewN ?_ _ | refine Chg.drew ?_ | refine Chg.alloc ?_ _ | refine Chg.setCell ?_ (by first | (simp; done) | (simp; omega) | (intro h; simp at h; omega)) _))))) HBS.out (by omega) hbm).mono ?_; rintro e w4 ⟨rfl, hb4⟩; have HB4 := Lib.hid hb4; clear hb4; have k4_1 := watch_cell HB4.out 1; have k4_2 := watch_cell HB4.out 2; simp at k4_1 k4_2))
  go_wp2
  go_ret
  refine ⟨?_, _, bsm_rename a b HBS.out, HB4.out.drop⟩
  simp

set_option maxRecDepth 100000 in
set_option maxHeartbeats 4000000 in
theorem ld_act_removep (w0 : World) (d r : Nat) (D : DiskV) (N : Nat) (hN : N ≤ 999) (Do : Int) (a b : ByteArray) (n m : Int) (bv : Value) (l : List Int) (ha : a.size ≤ 140737488355328) (hb : b.size ≤ 140737488355328) (hn : In64 n) (hm : In64 m) (hl : l.length ≤ 17592186044416)
    (hDo : Do.tmod 12 = 5) (hbs : BSm N D) (w : World) (h : Both w0 w d r (fun _ _ => False) D D (fun _ => False)) (hr : RInts w bv l) :
    Calls Tryz.prog 21 #[.pointer (some ⟨d, 0, none⟩), .pointer (some ⟨r, 0, none⟩), .agg #[.int .i64 Do, .string a, .string b, .int .i64 n, .int .i64 m, bv]] w (ActPost w0 d r N) := by
  obtain ⟨i0, hi0, hz0, hz1, hz2⟩ := info_parts info_int
  have hl2 := hr
  obtain ⟨ba, bc, rfl, _, hlb, _⟩ := hr
  have ham : a.size ≤ maxLen := Nat.le_trans ha (by decide)
  have hbm : b.size ≤ maxLen := Nat.le_trans hb (by decide)
  obtain ⟨hn1, hn2⟩ := hn
  obtain ⟨hm1, hm2⟩ := hm
  obtain ⟨W1, hW1⟩ : ∃ W1, W1 = w.alloc (.cells #[.int .i64 Do, .string a, .string b, .int .i64 n, .int .i64 m, .slice ba l.length bc] 35) := ⟨_, rfl⟩
  have hc1 : Chg (fun _ => False) w W1 := by rw [hW1]; ((repeat (first | exact Chg.refl _ _ | assumption | refine Chg.drewN ?_ _ | refine Chg.drew ?_ | refine Chg.alloc ?_ _ | refine Chg.setCell ?_ (by first | (simp; done) | (simp; omega) | (intro h; simp at h; omega)) _)))
  have hb1 : Blk W1 w.heap.size 35 #[.int .i64 Do, .string a, .string b, .int .i64 n, .int .i64 m, .slice ba l.length bc] := by rw [hW1]; exact Blk.new w _ _
  have hs1 : w.heap.size < W1.heap.size := hb1.lt
  have hs1e : W1.heap.size = w.heap.size + 1 := by rw [hW1]; simp
  have hsrc := fun W (hW : Chg (fun _ => False) w W) => rints_src (w := W) (l := l) (v := .slice ba l.length bc) (hl2.keep hW)
  have HSR := Lib.hid hsrc
  have HW1 := Lib.hid hW1
  have HC1 := Lib.hid hc1
  have HB1 := Lib.hid hb1
  have H := Lib.hid h
  have HBS := Lib.hid hbs
  have HLB := Lib.hid hlb
  have HS1 := Lib.hid hs1e
  have hb10 := hb1.cell 5
  simp at hb10
  clear hsrc hW1 hc1 hb1 h hbs hlb hl2 hs1e
  go_enter Tryz.func21, Tryz.ntmps21
  go_wp2_with (at_builtin; rw [← HW1.out]; refine wpList_own_append _ (by rfl) _ _ _ _ (by rfl) 3 i0 (.int .i64 0) 1 8 Tryz.underlying33 hi0 hz0 hz1 hz2 rfl (.slice none 0 0) 0 [] (by rfl) (Own.nil _ _ _) _ l.length (intCells l) (by rfl) (HSR.out _ HC1.out) (by unfold maxLen; omega) (by omega) ?_)
  intro v' w2 hown hgr hvb
  have hown2 : Own w2 3 1 v' l.length (intCells l) := by simpa using hown
  obtain ⟨va, vc, rfl, _, _, _⟩ := hown2.reads
  have hc2 : Chg (fun _ => False) W1 w2 := (Chg.refl _ _).grown hgr (fun k e _ => by simp [Value.ownBlock] at e)
  have hge : ∀ k, (Value.slice va l.length vc).ownBlock = some k → W1.heap.size ≤ k := fun k hk => by
    rcases hvb with e | e
    · rw [e] at hk; simp [Value.ownBlock] at hk
    · rw [e] at hk; injection hk with hk; omega
  have hb2 := HB1.out.chg hc2 (by simp)
  have hkeep : Both w0 w2 d r (Watch w.heap.size #[.int .i64 Do, .string a, .string b, .int .i64 n, .int .i64 m, .slice ba l.length bc]) D D (fun k => (Value.slice va l.length vc).ownBlock = some k) := H.out.keep (HC1.out.then hc2) (fun k hk => ⟨by have := hge k hk; omega, hown2.lt hk⟩) (fun k o hk => by
    obtain ⟨rfl, rfl⟩ := hk
    exact ⟨Nat.le_refl _, hb2, fun e => by have := hge _ e; omega⟩)
  have HB := Lib.hid hkeep
  have HO := Lib.hid hown2
  have hgl := hb2.lt
  have y1 := hb2.cell 1
  have y2 := hb2.cell 2
  have y3 := hb2.cell 3
  have y4 := hb2.cell 4
  simp at y1 y2 y3 y4
  clear hown hown2 hgr hvb hc2 hge hb2 hkeep HSR HW1 HC1 HB1 H HS1 hb10
  generalize w.heap.size = g at *
  go_wp2_with fail
  go_region_held3 (fun w' => w'.cell? ⟨g, 1, none⟩ = some (.string a))
    (first | (go_keep; done))
    (first
      | (go_at_call 51; refine (bd_remove w0 d r _ D D _ N a _ (HB.out.same (by ((repeat (first | exact Chg.refl _ _ | assumption | refine Chg.drewN ?_ _ | refine Chg.drew ?_ | refine Chg.alloc ?_ _ | refine Chg.setCell ?_ (by first | (simp; done) | (simp; omega) | (intro h; simp at h; omega)) _))))) HBS.out (by omega) ham).mono ?_; rintro e w3 ⟨rfl, hb3⟩; have HB3 := Lib.hid hb3; clear hb3; have k3_1 := watch_cell HB3.out 1; simp at k3_1)
      | (go_at_call 52; refine (br_remove w0 d r _ (removeD D a).2 D _ N a _ (HB3.out.same (by ((repeat (first | exact Chg.refl _ _ | assumption | refine Chg.drewN ?_ _ | refine Chg.drew ?_ | refine Chg.alloc ?_ _ | refine Chg.setCell ?_ (by first | (simp; done) | (simp; omega) | (intro h; simp at h; omega)) _))))) HBS.out (by omega)).mono ?_; rintro e w4 ⟨rfl, hb4⟩; have HB4 := Lib.hid hb4; clear hb4; have k4_1 := watch_cell HB4.out 1; simp at k4_1))
  go_wp2
  go_ret
  refine ⟨?_, _, bsm_remove a HBS.out, HB4.out.drop⟩
  simp

set_option maxRecDepth 100000 in
set_option maxHeartbeats 4000000 in
theorem ld_act_readp (w0 : World) (d r : Nat) (D : DiskV) (N : Nat) (hN : N ≤ 999) (Do : Int) (a b : ByteArray) (n m : Int) (bv : Value) (l : List Int) (ha : a.size ≤ 140737488355328) (hb : b.size ≤ 140737488355328) (hn : In64 n) (hm : In64 m) (hl : l.length ≤ 17592186044416)
    (hDo : Do.tmod 12 = 6) (hbs : BSm N D) (w : World) (h : Both w0 w d r (fun _ _ => False) D D (fun _ => False)) (hr : RInts w bv l) :
    Calls Tryz.prog 21 #[.pointer (some ⟨d, 0, none⟩), .pointer (some ⟨r, 0, none⟩), .agg #[.int .i64 Do, .string a, .string b, .int .i64 n, .int .i64 m, bv]] w (ActPost w0 d r N) := by
  obtain ⟨i0, hi0, hz0, hz1, hz2⟩ := info_parts info_int
  have hl2 := hr
  obtain ⟨ba, bc, rfl, _, hlb, _⟩ := hr
  have ham : a.size ≤ maxLen := Nat.le_trans ha (by decide)
  have hbm : b.size ≤ maxLen := Nat.le_trans hb (by decide)
  obtain ⟨hn1, hn2⟩ := hn
  obtain ⟨hm1, hm2⟩ := hm
  obtain ⟨W1, hW1⟩ : ∃ W1, W1 = w.alloc (.cells #[.int .i64 Do, .string a, .string b, .int .i64 n, .int .i64 m, .slice ba l.length bc] 35) := ⟨_, rfl⟩
  have hc1 : Chg (fun _ => False) w W1 := by rw [hW1]; ((repeat (first | exact Chg.refl _ _ | assumption | refine Chg.drewN ?_ _ | refine Chg.drew ?_ | refine Chg.alloc ?_ _ | refine Chg.setCell ?_ (by first | (simp; done) | (simp; omega) | (intro h; simp at h; omega)) _)))
  have hb1 : Blk W1 w.heap.size 35 #[.int .i64 Do, .string a, .string b, .int .i64 n, .int .i64 m, .slice ba l.length bc] := by rw [hW1]; exact Blk.new w _ _
  have hs1 : w.heap.size < W1.heap.size := hb1.lt
  have hs1e : W1.heap.size = w.heap.size + 1 := by rw [hW1]; simp
  have hsrc := fun W (hW : Chg (fun _ => False) w W) => rints_src (w := W) (l := l) (v := .slice ba l.length bc) (hl2.keep hW)
  have HSR := Lib.hid hsrc
  have HW1 := Lib.hid hW1
  have HC1 := Lib.hid hc1
  have HB1 := Lib.hid hb1
  have H := Lib.hid h
  have HBS := Lib.hid hbs
  have HLB := Lib.hid hlb
  have HS1 := Lib.hid hs1e
  have hb10 := hb1.cell 5
  simp at hb10
  clear hsrc hW1 hc1 hb1 h hbs hlb hl2 hs1e
  go_enter Tryz.func21, Tryz.ntmps21
  go_wp2_with (at_builtin; rw [← HW1.out]; refine wpList_own_append _ (by rfl) _ _ _ _ (by rfl) 3 i0 (.int .i64 0) 1 8 Tryz.underlying33 hi0 hz0 hz1 hz2 rfl (.slice none 0 0) 0 [] (by rfl) (Own.nil _ _ _) _ l.length (intCells l) (by rfl) (HSR.out _ HC1.out) (by unfold maxLen; omega) (by omega) ?_)
  intro v' w2 hown hgr hvb
  have hown2 : Own w2 3 1 v' l.length (intCells l) := by simpa using hown
  obtain ⟨va, vc, rfl, _, _, _⟩ := hown2.reads
  have hc2 : Chg (fun _ => False) W1 w2 := (Chg.refl _ _).grown hgr (fun k e _ => by simp [Value.ownBlock] at e)
  have hge : ∀ k, (Value.slice va l.length vc).ownBlock = some k → W1.heap.size ≤ k := fun k hk => by
    rcases hvb with e | e
    · rw [e] at hk; simp [Value.ownBlock] at hk
    · rw [e] at hk; injection hk with hk; omega
  have hb2 := HB1.out.chg hc2 (by simp)
  have hkeep : Both w0 w2 d r (Watch w.heap.size #[.int .i64 Do, .string a, .string b, .int .i64 n, .int .i64 m, .slice ba l.length bc]) D D (fun k => (Value.slice va l.length vc).ownBlock = some k) := H.out.keep (HC1.out.then hc2) (fun k hk => ⟨by have := hge k hk; omega, hown2.lt hk⟩) (fun k o hk => by
    obtain ⟨rfl, rfl⟩ := hk
    exact ⟨Nat.le_refl _, hb2, fun e => by have := hge _ e; omega⟩)
  have HB := Lib.hid hkeep
  have HO := Lib.hid hown2
  have hgl := hb2.lt
  have y1 := hb2.cell 1
  have y2 := hb2.cell 2
  have y3 := hb2.cell 3
  have y4 := hb2.cell 4
  simp at y1 y2 y3 y4
  clear hown hown2 hgr hvb hc2 hge hb2 hkeep HSR HW1 HC1 HB1 H HS1 hb10
  generalize w.heap.size = g at *
  go_wp2_with fail
  refine (bd_read w0 d r _ D D _ a _ HB.out ham).mono ?_
  rintro e w3 ⟨rfl, hb3⟩
  have HB3 := Lib.hid hb3
  clear hb3
  have k3_1 := watch_cell HB3.out 1
  have k3_3 := watch_cell HB3.out 3
  have k3_4 := watch_cell HB3.out 4
  simp at k3_1 k3_3 k3_4
  go_wp2_with fail
  refine (br_read w0 d r _ D D _ a _ HB3.out).mono ?_
  rintro e w4 ⟨rfl, hb4⟩
  have HB4 := Lib.hid hb4
  clear hb4
  have k4_1 := watch_cell HB4.out 1
  have k4_3 := watch_cell HB4.out 3
  have k4_4 := watch_cell HB4.out 4
  simp at k4_1 k4_3 k4_4
  go_wp2_with fail
  refine (bd_part w0 d r _ D D _ a _ HB4.out ham n m hn1 hn2 hm1 hm2).mono ?_
  rintro e w5 ⟨rfl, hb5⟩
  have HB5 := Lib.hid hb5
  clear hb5
  have k5_1 := watch_cell HB5.out 1
  have k5_3 := watch_cell HB5.out 3
  have k5_4 := watch_cell HB5.out 4
  simp at k5_1 k5_3 k5_4
  go_wp2_with fail
  refine (br_part w0 d r _ D D _ a _ HB5.out n m hn1 hn2 hm1 hm2).mono ?_
  rintro e w6 ⟨rfl, hb6⟩
  have HB6 := Lib.hid hb6
  clear hb6
  have k6_1 := watch_cell HB6.out 1
  have k6_3 := watch_cell HB6.out 3
  have k6_4 := watch_cell HB6.out 4
  simp at k6_1 k6_3 k6_4
  generalize (readD D a).1 = x1 at *
  generalize (readD D a).2 = x2 at *
  generalize (partD D a n m).1 = x3 at *
  generalize (partD D a n m).2 = x4 at *
  have e1 : (x1.toList == x1.toList) = true := by simp
  have e3 : (x3.toList == x3.toList) = true := by simp
  go_wp2_with fail
  go_ret
  refine ⟨?_, _, HBS.out.up, HB6.out.drop⟩
  simp

set_option maxRecDepth 100000 in
set_option maxHeartbeats 4000000 in
theorem ld_act_crashp (w0 : World) (d r : Nat) (D : DiskV) (N : Nat) (hN : N ≤ 999) (Do : Int) (a b : ByteArray) (n m : Int) (bv : Value) (l : List Int) (ha : a.size ≤ 140737488355328) (hb : b.size ≤ 140737488355328) (hn : In64 n) (hm : In64 m) (hl : l.length ≤ 17592186044416)
    (hDo : Do.tmod 12 = 7) (hbs : BSm N D) (w : World) (h : Both w0 w d r (fun _ _ => False) D D (fun _ => False)) (hr : RInts w bv l) :
    Calls Tryz.prog 21 #[.pointer (some ⟨d, 0, none⟩), .pointer (some ⟨r, 0, none⟩), .agg #[.int .i64 Do, .string a, .string b, .int .i64 n, .int .i64 m, bv]] w (ActPost w0 d r N) := by
  obtain ⟨i0, hi0, hz0, hz1, hz2⟩ := info_parts info_int
  have hl2 := hr
  obtain ⟨ba, bc, rfl, _, hlb, _⟩ := hr
  have ham : a.size ≤ maxLen := Nat.le_trans ha (by decide)
  have hbm : b.size ≤ maxLen := Nat.le_trans hb (by decide)
  obtain ⟨hn1, hn2⟩ := hn
  obtain ⟨hm1, hm2⟩ := hm
  obtain ⟨W1, hW1⟩ : ∃ W1, W1 = w.alloc (.cells #[.int .i64 Do, .string a, .string b, .int .i64 n, .int .i64 m, .slice ba l.length bc] 35) := ⟨_, rfl⟩
  have hc1 : Chg (fun _ => False) w W1 := by rw [hW1]; ((repeat (first | exact Chg.refl _ _ | assumption | refine Chg.drewN ?_ _ | refine Chg.drew ?_ | refine Chg.alloc ?_ _ | refine Chg.setCell ?_ (by first | (simp; done) | (simp; omega) | (intro h; simp at h; omega)) _)))
  have hb1 : Blk W1 w.heap.size 35 #[.int .i64 Do, .string a, .string b, .int .i64 n, .int .i64 m, .slice ba l.length bc] := by rw [hW1]; exact Blk.new w _ _
  have hs1 : w.heap.size < W1.heap.size := hb1.lt
  have hs1e : W1.heap.size = w.heap.size + 1 := by rw [hW1]; simp
  have hsrc := fun W (hW : Chg (fun _ => False) w W) => rints_src (w := W) (l := l) (v := .slice ba l.length bc) (hl2.keep hW)
  have HSR := Lib.hid hsrc
  have HW1 := Lib.hid hW1
  have HC1 := Lib.hid hc1
  have HB1 := Lib.hid hb1
  have H := Lib.hid h
  have HBS := Lib.hid hbs
  have HLB := Lib.hid hlb
  have HS1 := Lib.hid hs1e
  have hb10 := hb1.cell 5
  simp at hb10
  clear hsrc hW1 hc1 hb1 h hbs hlb hl2 hs1e
  go_enter Tryz.func21, Tryz.ntmps21
  go_wp2_with (at_builtin; rw [← HW1.out]; refine wpList_own_append _ (by rfl) _ _ _ _ (by rfl) 3 i0 (.int .i64 0) 1 8 Tryz.underlying33 hi0 hz0 hz1 hz2 rfl (.slice none 0 0) 0 [] (by rfl) (Own.nil _ _ _) _ l.length (intCells l) (by rfl) (HSR.out _ HC1.out) (by unfold maxLen; omega) (by omega) ?_)
  intro v' w2 hown hgr hvb
  have hown2 : Own w2 3 1 v' l.length (intCells l) := by simpa using hown
  obtain ⟨va, vc, rfl, _, _, _⟩ := hown2.reads
  have hc2 : Chg (fun _ => False) W1 w2 := (Chg.refl _ _).grown hgr (fun k e _ => by simp [Value.ownBlock] at e)
  have hge : ∀ k, (Value.slice va l.length vc).ownBlock = some k → W1.heap.size ≤ k := fun k hk => by
    rcases hvb with e | e
    · rw [e] at hk; simp [Value.ownBlock] at hk
    · rw [e] at hk; injection hk with hk; omega
  have hb2 := HB1.out.chg hc2 (by simp)
  have hkeep : Both w0 w2 d r (Watch w.heap.size #[.int .i64 Do, .string a, .string b, .int .i64 n, .int .i64 m, .slice ba l.length bc]) D D (fun k => (Value.slice va l.length vc).ownBlock = some k) := H.out.keep (HC1.out.then hc2) (fun k hk => ⟨by have := hge k hk; omega, hown2.lt hk⟩) (fun k o hk => by
    obtain ⟨rfl, rfl⟩ := hk
    exact ⟨Nat.le_refl _, hb2, fun e => by have := hge _ e; omega⟩)
  have HB := Lib.hid hkeep
  have HO := Lib.hid hown2
  have hgl := hb2.lt
  have y1 := hb2.cell 1
  have y2 := hb2.cell 2
  have y3 := hb2.cell 3
  have y4 := hb2.cell 4
  simp at y1 y2 y3 y4
  clear hown hown2 hgr hvb hc2 hge hb2 hkeep HSR HW1 HC1 HB1 H HS1 hb10
  generalize w.heap.size = g at *
  go_wp2_with fail
  refine (bd_crash w0 d r _ D D N l _ m _ HB.out hm1 hm2 HLB.out HO.out HBS.out (by omega)).mono ?_
  rintro e w3 ⟨rfl, hb3, ho3⟩
  have HB3 := Lib.hid hb3
  have HO3 := Lib.hid ho3
  clear ho3
  clear hb3
  have k3_4 := watch_cell HB3.out 4
  simp at k3_4
  go_wp2_with fail
  refine (br_fail w0 d r _ (crashD D m l) D N l _ m _ HB3.out hm1 hm2 HLB.out HO3.out HBS.out (by omega)).mono ?_
  rintro e w4 ⟨rfl, hb4⟩
  have HB4 := Lib.hid hb4
  clear hb4
  have k4_4 := watch_cell HB4.out 4
  simp at k4_4
  obtain ⟨c5, f5, hoff⟩ := HB4.out.roff
  have HOFF := Lib.hid hoff
  clear hoff
  go_wp2_with fail
  go_ret
  exact ⟨rfl, _, bsm_crash HBS.out m l, HOFF.out.drop⟩

set_option maxRecDepth 100000 in
set_option maxHeartbeats 4000000 in
theorem ld_act_cutp (w0 : World) (d r : Nat) (D : DiskV) (N : Nat) (hN : N ≤ 999) (Do : Int) (a b : ByteArray) (n m : Int) (bv : Value) (l : List Int) (ha : a.size ≤ 140737488355328) (hb : b.size ≤ 140737488355328) (hn : In64 n) (hm : In64 m) (hl : l.length ≤ 17592186044416)
    (hDo : Do.tmod 12 = 8) (hbs : BSm N D) (w : World) (h : Both w0 w d r (fun _ _ => False) D D (fun _ => False)) (hr : RInts w bv l) :
    Calls Tryz.prog 21 #[.pointer (some ⟨d, 0, none⟩), .pointer (some ⟨r, 0, none⟩), .agg #[.int .i64 Do, .string a, .string b, .int .i64 n, .int .i64 m, bv]] w (ActPost w0 d r N) := by
  obtain ⟨i0, hi0, hz0, hz1, hz2⟩ := info_parts info_int
  have hl2 := hr
  obtain ⟨ba, bc, rfl, _, hlb, _⟩ := hr
  have ham : a.size ≤ maxLen := Nat.le_trans ha (by decide)
  have hbm : b.size ≤ maxLen := Nat.le_trans hb (by decide)
  obtain ⟨hn1, hn2⟩ := hn
  obtain ⟨hm1, hm2⟩ := hm
  obtain ⟨W1, hW1⟩ : ∃ W1, W1 = w.alloc (.cells #[.int .i64 Do, .string a, .string b, .int .i64 n, .int .i64 m, .slice ba l.length bc] 35) := ⟨_, rfl⟩
  have hc1 : Chg (fun _ => False) w W1 := by rw [hW1]; ((repeat (first | exact Chg.refl _ _ | assumption | refine Chg.drewN ?_ _ | refine Chg.drew ?_ | refine Chg.alloc ?_ _ | refine Chg.setCell ?_ (by first | (simp; done) | (simp; omega) | (intro h; simp at h; omega)) _)))
  have hb1 : Blk W1 w.heap.size 35 #[.int .i64 Do, .string a, .string b, .int .i64 n, .int .i64 m, .slice ba l.length bc] := by rw [hW1]; exact Blk.new w _ _
  have hs1 : w.heap.size < W1.heap.size := hb1.lt
  have hs1e : W1.heap.size = w.heap.size + 1 := by rw [hW1]; simp
  have hsrc := fun W (hW : Chg (fun _ => False) w W) => rints_src (w := W) (l := l) (v := .slice ba l.length bc) (hl2.keep hW)
  have HSR := Lib.hid hsrc
  have HW1 := Lib.hid hW1
  have HC1 := Lib.hid hc1
  have HB1 := Lib.hid hb1
  have H := Lib.hid h
  have HBS := Lib.hid hbs
  have HLB := Lib.hid hlb
  have HS1 := Lib.hid hs1e
  have hb10 := hb1.cell 5
  simp at hb10
  clear hsrc hW1 hc1 hb1 h hbs hlb hl2 hs1e
  go_enter Tryz.func21, Tryz.ntmps21
  go_wp2_with (at_builtin; rw [← HW1.out]; refine wpList_own_append _ (by rfl) _ _ _ _ (by rfl) 3 i0 (.int .i64 0) 1 8 Tryz.underlying33 hi0 hz0 hz1 hz2 rfl (.slice none 0 0) 0 [] (by rfl) (Own.nil _ _ _) _ l.length (intCells l) (by rfl) (HSR.out _ HC1.out) (by unfold maxLen; omega) (by omega) ?_)
  intro v' w2 hown hgr hvb
  have hown2 : Own w2 3 1 v' l.length (intCells l) := by simpa using hown
  obtain ⟨va, vc, rfl, _, _, _⟩ := hown2.reads
  have hc2 : Chg (fun _ => False) W1 w2 := (Chg.refl _ _).grown hgr (fun k e _ => by simp [Value.ownBlock] at e)
  have hge : ∀ k, (Value.slice va l.length vc).ownBlock = some k → W1.heap.size ≤ k := fun k hk => by
    rcases hvb with e | e
    · rw [e] at hk; simp [Value.ownBlock] at hk
    · rw [e] at hk; injection hk with hk; omega
  have hb2 := HB1.out.chg hc2 (by simp)
  have hkeep : Both w0 w2 d r (Watch w.heap.size #[.int .i64 Do, .string a, .string b, .int .i64 n, .int .i64 m, .slice ba l.length bc]) D D (fun k => (Value.slice va l.length vc).ownBlock = some k) := H.out.keep (HC1.out.then hc2) (fun k hk => ⟨by have := hge k hk; omega, hown2.lt hk⟩) (fun k o hk => by
    obtain ⟨rfl, rfl⟩ := hk
    exact ⟨Nat.le_refl _, hb2, fun e => by have := hge _ e; omega⟩)
  have HB := Lib.hid hkeep
  have HO := Lib.hid hown2
  have hgl := hb2.lt
  have y1 := hb2.cell 1
  have y2 := hb2.cell 2
  have y3 := hb2.cell 3
  have y4 := hb2.cell 4
  simp at y1 y2 y3 y4
  clear hown hown2 hgr hvb hc2 hge hb2 hkeep HSR HW1 HC1 HB1 H HS1 hb10
  generalize w.heap.size = g at *
  go_wp2_with fail
  refine (bd_cut w0 d r _ D D l _ m n _ HB.out hm1 hm2 hn2 HLB.out HO.out hl).mono ?_
  rintro e w3 ⟨rfl, hb3, ho3⟩
  have HB3 := Lib.hid hb3
  have HO3 := Lib.hid ho3
  clear ho3
  clear hb3
  have k3_3 := watch_cell HB3.out 3
  have k3_4 := watch_cell HB3.out 4
  simp at k3_3 k3_4
  go_wp2_with fail
  refine (br_cut w0 d r _ (cutD D n m l) D l _ m n _ HB3.out hm1 hm2 hn2 HLB.out HO3.out).mono ?_
  rintro e w4 ⟨rfl, hb4⟩
  have HB4 := Lib.hid hb4
  clear hb4
  have k4_3 := watch_cell HB4.out 3
  have k4_4 := watch_cell HB4.out 4
  simp at k4_3 k4_4
  go_wp2_with fail
  go_ret
  exact ⟨rfl, _, bsm_cut HBS.out n m l, HB4.out.drop⟩

set_option maxRecDepth 100000 in
set_option maxHeartbeats 4000000 in
theorem ld_act_breakp (w0 : World) (d r : Nat) (D : DiskV) (N : Nat) (hN : N ≤ 999) (Do : Int) (a b : ByteArray) (n m : Int) (bv : Value) (l : List Int) (ha : a.size ≤ 140737488355328) (hb : b.size ≤ 140737488355328) (hn : In64 n) (hm : In64 m) (hl : l.length ≤ 17592186044416)
    (hDo : Do.tmod 12 = 9) (hbs : BSm N D) (w : World) (h : Both w0 w d r (fun _ _ => False) D D (fun _ => False)) (hr : RInts w bv l) :
    Calls Tryz.prog 21 #[.pointer (some ⟨d, 0, none⟩), .pointer (some ⟨r, 0, none⟩), .agg #[.int .i64 Do, .string a, .string b, .int .i64 n, .int .i64 m, bv]] w (ActPost w0 d r N) := by
  obtain ⟨i0, hi0, hz0, hz1, hz2⟩ := info_parts info_int
  have hl2 := hr
  obtain ⟨ba, bc, rfl, _, hlb, _⟩ := hr
  have ham : a.size ≤ maxLen := Nat.le_trans ha (by decide)
  have hbm : b.size ≤ maxLen := Nat.le_trans hb (by decide)
  obtain ⟨hn1, hn2⟩ := hn
  obtain ⟨hm1, hm2⟩ := hm
  obtain ⟨W1, hW1⟩ : ∃ W1, W1 = w.alloc (.cells #[.int .i64 Do, .string a, .string b, .int .i64 n, .int .i64 m, .slice ba l.length bc] 35) := ⟨_, rfl⟩
  have hc1 : Chg (fun _ => False) w W1 := by rw [hW1]; ((repeat (first | exact Chg.refl _ _ | assumption | refine Chg.drewN ?_ _ | refine Chg.drew ?_ | refine Chg.alloc ?_ _ | refine Chg.setCell ?_ (by first | (simp; done) | (simp; omega) | (intro h; simp at h; omega)) _)))
  have hb1 : Blk W1 w.heap.size 35 #[.int .i64 Do, .string a, .string b, .int .i64 n, .int .i64 m, .slice ba l.length bc] := by rw [hW1]; exact Blk.new w _ _
  have hs1 : w.heap.size < W1.heap.size := hb1.lt
  have hs1e : W1.heap.size = w.heap.size + 1 := by rw [hW1]; simp
  have hsrc := fun W (hW : Chg (fun _ => False) w W) => rints_src (w := W) (l := l) (v := .slice ba l.length bc) (hl2.keep hW)
  have HSR := Lib.hid hsrc
  have HW1 := Lib.hid hW1
  have HC1 := Lib.hid hc1
  have HB1 := Lib.hid hb1
  have H := Lib.hid h
  have HBS := Lib.hid hbs
  have HLB := Lib.hid hlb
  have HS1 := Lib.hid hs1e
  have hb10 := hb1.cell 5
  simp at hb10
  clear hsrc hW1 hc1 hb1 h hbs hlb hl2 hs1e
  go_enter Tryz.func21, Tryz.ntmps21
  go_wp2_with (at_builtin; rw [← HW1.out]; refine wpList_own_append _ (by rfl) _ _ _ _ (by rfl) 3 i0 (.int .i64 0) 1 8 Tryz.underlying33 hi0 hz0 hz1 hz2 rfl (.slice none 0 0) 0 [] (by rfl) (Own.nil _ _ _) _ l.length (intCells l) (by rfl) (HSR.out _ HC1.out) (by unfold maxLen; omega) (by omega) ?_)
  intro v' w2 hown hgr hvb
  have hown2 : Own w2 3 1 v' l.length (intCells l) := by simpa using hown
  obtain ⟨va, vc, rfl, _, _, _⟩ := hown2.reads
  have hc2 : Chg (fun _ => False) W1 w2 := (Chg.refl _ _).grown hgr (fun k e _ => by simp [Value.ownBlock] at e)
  have hge : ∀ k, (Value.slice va l.length vc).ownBlock = some k → W1.heap.size ≤ k := fun k hk => by
    rcases hvb with e | e
    · rw [e] at hk; simp [Value.ownBlock] at hk
    · rw [e] at hk; injection hk with hk; omega
  have hb2 := HB1.out.chg hc2 (by simp)
  have hkeep : Both w0 w2 d r (Watch w.heap.size #[.int .i64 Do, .string a, .string b, .int .i64 n, .int .i64 m, .slice ba l.length bc]) D D (fun k => (Value.slice va l.length vc).ownBlock = some k) := H.out.keep (HC1.out.then hc2) (fun k hk => ⟨by have := hge k hk; omega, hown2.lt hk⟩) (fun k o hk => by
    obtain ⟨rfl, rfl⟩ := hk
    exact ⟨Nat.le_refl _, hb2, fun e => by have := hge _ e; omega⟩)
  have HB := Lib.hid hkeep
  have HO := Lib.hid hown2
  have hgl := hb2.lt
  have y1 := hb2.cell 1
  have y2 := hb2.cell 2
  have y3 := hb2.cell 3
  have y4 := hb2.cell 4
  simp at y1 y2 y3 y4
  clear hown hown2 hgr hvb hc2 hge hb2 hkeep HSR HW1 HC1 HB1 H HS1 hb10
  generalize w.heap.size = g at *
  go_wp2_with fail
  refine (bd_break w0 d r _ D D _ _ HB.out n hn2).mono ?_
  rintro e w3 ⟨rfl, hb3⟩
  have HB3 := Lib.hid hb3
  clear hb3
  have k3_3 := watch_cell HB3.out 3
  simp at k3_3
  go_wp2_with fail
  refine (br_break w0 d r _ (breakD D n) D _ _ HB3.out n hn2).mono ?_
  rintro e w4 ⟨rfl, hb4⟩
  have HB4 := Lib.hid hb4
  clear hb4
  have k4_3 := watch_cell HB4.out 3
  simp at k4_3
  go_wp2_with fail
  go_ret
  exact ⟨rfl, _, bsm_break HBS.out n, HB4.out.drop⟩

set_option maxRecDepth 100000 in
set_option maxHeartbeats 4000000 in
theorem ld_act_onp (w0 : World) (d r : Nat) (D : DiskV) (N : Nat) (hN : N ≤ 999) (Do : Int) (a b : ByteArray) (n m : Int) (bv : Value) (l : List Int) (ha : a.size ≤ 140737488355328) (hb : b.size ≤ 140737488355328) (hn : In64 n) (hm : In64 m) (hl : l.length ≤ 17592186044416)
    (hDo : Do.tmod 12 = 10) (hbs : BSm N D) (w : World) (h : Both w0 w d r (fun _ _ => False) D D (fun _ => False)) (hr : RInts w bv l) :
    Calls Tryz.prog 21 #[.pointer (some ⟨d, 0, none⟩), .pointer (some ⟨r, 0, none⟩), .agg #[.int .i64 Do, .string a, .string b, .int .i64 n, .int .i64 m, bv]] w (ActPost w0 d r N) := by
  obtain ⟨i0, hi0, hz0, hz1, hz2⟩ := info_parts info_int
  have hl2 := hr
  obtain ⟨ba, bc, rfl, _, hlb, _⟩ := hr
  have ham : a.size ≤ maxLen := Nat.le_trans ha (by decide)
  have hbm : b.size ≤ maxLen := Nat.le_trans hb (by decide)
  obtain ⟨hn1, hn2⟩ := hn
  obtain ⟨hm1, hm2⟩ := hm
  obtain ⟨W1, hW1⟩ : ∃ W1, W1 = w.alloc (.cells #[.int .i64 Do, .string a, .string b, .int .i64 n, .int .i64 m, .slice ba l.length bc] 35) := ⟨_, rfl⟩
  have hc1 : Chg (fun _ => False) w W1 := by rw [hW1]; ((repeat (first | exact Chg.refl _ _ | assumption | refine Chg.drewN ?_ _ | refine Chg.drew ?_ | refine Chg.alloc ?_ _ | refine Chg.setCell ?_ (by first | (simp; done) | (simp; omega) | (intro h; simp at h; omega)) _)))
  have hb1 : Blk W1 w.heap.size 35 #[.int .i64 Do, .string a, .string b, .int .i64 n, .int .i64 m, .slice ba l.length bc] := by rw [hW1]; exact Blk.new w _ _
  have hs1 : w.heap.size < W1.heap.size := hb1.lt
  have hs1e : W1.heap.size = w.heap.size + 1 := by rw [hW1]; simp
  have hsrc := fun W (hW : Chg (fun _ => False) w W) => rints_src (w := W) (l := l) (v := .slice ba l.length bc) (hl2.keep hW)
  have HSR := Lib.hid hsrc
  have HW1 := Lib.hid hW1
  have HC1 := Lib.hid hc1
  have HB1 := Lib.hid hb1
  have H := Lib.hid h
  have HBS := Lib.hid hbs
  have HLB := Lib.hid hlb
  have HS1 := Lib.hid hs1e
  have hb10 := hb1.cell 5
  simp at hb10
  clear hsrc hW1 hc1 hb1 h hbs hlb hl2 hs1e
  go_enter Tryz.func21, Tryz.ntmps21
  go_wp2_with (at_builtin; rw [← HW1.out]; refine wpList_own_append _ (by rfl) _ _ _ _ (by rfl) 3 i0 (.int .i64 0) 1 8 Tryz.underlying33 hi0 hz0 hz1 hz2 rfl (.slice none 0 0) 0 [] (by rfl) (Own.nil _ _ _) _ l.length (intCells l) (by rfl) (HSR.out _ HC1.out) (by unfold maxLen; omega) (by omega) ?_)
  intro v' w2 hown hgr hvb
  have hown2 : Own w2 3 1 v' l.length (intCells l) := by simpa using hown
  obtain ⟨va, vc, rfl, _, _, _⟩ := hown2.reads
  have hc2 : Chg (fun _ => False) W1 w2 := (Chg.refl _ _).grown hgr (fun k e _ => by simp [Value.ownBlock] at e)
  have hge : ∀ k, (Value.slice va l.length vc).ownBlock = some k → W1.heap.size ≤ k := fun k hk => by
    rcases hvb with e | e
    · rw [e] at hk; simp [Value.ownBlock] at hk
    · rw [e] at hk; injection hk with hk; omega
  have hb2 := HB1.out.chg hc2 (by simp)
  have hkeep : Both w0 w2 d r (Watch w.heap.size #[.int .i64 Do, .string a, .string b, .int .i64 n, .int .i64 m, .slice ba l.length bc]) D D (fun k => (Value.slice va l.length vc).ownBlock = some k) := H.out.keep (HC1.out.then hc2) (fun k hk => ⟨by have := hge k hk; omega, hown2.lt hk⟩) (fun k o hk => by
    obtain ⟨rfl, rfl⟩ := hk
    exact ⟨Nat.le_refl _, hb2, fun e => by have := hge _ e; omega⟩)
  have HB := Lib.hid hkeep
  have HO := Lib.hid hown2
  have hgl := hb2.lt
  have y1 := hb2.cell 1
  have y2 := hb2.cell 2
  have y3 := hb2.cell 3
  have y4 := hb2.cell 4
  simp at y1 y2 y3 y4
  clear hown hown2 hgr hvb hc2 hge hb2 hkeep HSR HW1 HC1 HB1 H HS1 hb10
  generalize w.heap.size = g at *
  go_wp2_with fail
  refine (bd_on w0 d r _ D D _ _ HB.out).mono ?_
  rintro e w3 ⟨rfl, hb3⟩
  have HB3 := Lib.hid hb3
  clear hb3
  obtain ⟨⟨o1, o2, o3, c5, c6, c9⟩, ⟨f5, f6, f9⟩, hon⟩ := HB3.out.ron
  have HON := Lib.hid hon
  clear hon
  go_wp2_with fail
  go_ret
  exact ⟨rfl, _, bsm_on HBS.out, HON.out.drop⟩

set_option maxRecDepth 100000 in
set_option maxHeartbeats 4000000 in
theorem ld_act_spoilp (w0 : World) (d r : Nat) (D : DiskV) (N : Nat) (hN : N ≤ 999) (Do : Int) (a b : ByteArray) (n m : Int) (bv : Value) (l : List Int) (ha : a.size ≤ 140737488355328) (hb : b.size ≤ 140737488355328) (hn : In64 n) (hm : In64 m) (hl : l.length ≤ 17592186044416)
    (hDo : Do.tmod 12 = 11) (hbs : BSm N D) (w : World) (h : Both w0 w d r (fun _ _ => False) D D (fun _ => False)) (hr : RInts w bv l) :
    Calls Tryz.prog 21 #[.pointer (some ⟨d, 0, none⟩), .pointer (some ⟨r, 0, none⟩), .agg #[.int .i64 Do, .string a, .string b, .int .i64 n, .int .i64 m, bv]] w (ActPost w0 d r N) := by
  obtain ⟨i0, hi0, hz0, hz1, hz2⟩ := info_parts info_int
  have hl2 := hr
  obtain ⟨ba, bc, rfl, _, hlb, _⟩ := hr
  have ham : a.size ≤ maxLen := Nat.le_trans ha (by decide)
  have hbm : b.size ≤ maxLen := Nat.le_trans hb (by decide)
  obtain ⟨hn1, hn2⟩ := hn
  obtain ⟨hm1, hm2⟩ := hm
  obtain ⟨W1, hW1⟩ : ∃ W1, W1 = w.alloc (.cells #[.int .i64 Do, .string a, .string b, .int .i64 n, .int .i64 m, .slice ba l.length bc] 35) := ⟨_, rfl⟩
  have hc1 : Chg (fun _ => False) w W1 := by rw [hW1]; ((repeat (first | exact Chg.refl _ _ | assumption | refine Chg.drewN ?_ _ | refine Chg.drew ?_ | refine Chg.alloc ?_ _ | refine Chg.setCell ?_ (by first | (simp; done) | (simp; omega) | (intro h; simp at h; omega)) _)))
  have hb1 : Blk W1 w.heap.size 35 #[.int .i64 Do, .string a, .string b, .int .i64 n, .int .i64 m, .slice ba l.length bc] := by rw [hW1]; exact Blk.new w _ _
  have hs1 : w.heap.size < W1.heap.size := hb1.lt
  have hs1e : W1.heap.size = w.heap.size + 1 := by rw [hW1]; simp
  have hsrc := fun W (hW : Chg (fun _ => False) w W) => rints_src (w := W) (l := l) (v := .slice ba l.length bc) (hl2.keep hW)
  have HSR := Lib.hid hsrc
  have HW1 := Lib.hid hW1
  have HC1 := Lib.hid hc1
  have HB1 := Lib.hid hb1
  have H := Lib.hid h
  have HBS := Lib.hid hbs
  have HLB := Lib.hid hlb
  have HS1 := Lib.hid hs1e
  have hb10 := hb1.cell 5
  simp at hb10
  clear hsrc hW1 hc1 hb1 h hbs hlb hl2 hs1e
  go_enter Tryz.func21, Tryz.ntmps21
  go_wp2_with (at_builtin; rw [← HW1.out]; refine wpList_own_append _ (by rfl) _ _ _ _ (by rfl) 3 i0 (.int .i64 0) 1 8 Tryz.underlying33 hi0 hz0 hz1 hz2 rfl (.slice none 0 0) 0 [] (by rfl) (Own.nil _ _ _) _ l.length (intCells l) (by rfl) (HSR.out _ HC1.out) (by unfold maxLen; omega) (by omega) ?_)
  intro v' w2 hown hgr hvb
  have hown2 : Own w2 3 1 v' l.length (intCells l) := by simpa using hown
  obtain ⟨va, vc, rfl, _, _, _⟩ := hown2.reads
  have hc2 : Chg (fun _ => False) W1 w2 := (Chg.refl _ _).grown hgr (fun k e _ => by simp [Value.ownBlock] at e)
  have hge : ∀ k, (Value.slice va l.length vc).ownBlock = some k → W1.heap.size ≤ k := fun k hk => by
    rcases hvb with e | e
    · rw [e] at hk; simp [Value.ownBlock] at hk
    · rw [e] at hk; injection hk with hk; omega
  have hb2 := HB1.out.chg hc2 (by simp)
  have hkeep : Both w0 w2 d r (Watch w.heap.size #[.int .i64 Do, .string a, .string b, .int .i64 n, .int .i64 m, .slice ba l.length bc]) D D (fun k => (Value.slice va l.length vc).ownBlock = some k) := H.out.keep (HC1.out.then hc2) (fun k hk => ⟨by have := hge k hk; omega, hown2.lt hk⟩) (fun k o hk => by
    obtain ⟨rfl, rfl⟩ := hk
    exact ⟨Nat.le_refl _, hb2, fun e => by have := hge _ e; omega⟩)
  have HB := Lib.hid hkeep
  have HO := Lib.hid hown2
  have hgl := hb2.lt
  have y1 := hb2.cell 1
  have y2 := hb2.cell 2
  have y3 := hb2.cell 3
  have y4 := hb2.cell 4
  simp at y1 y2 y3 y4
  clear hown hown2 hgr hvb hc2 hge hb2 hkeep HSR HW1 HC1 HB1 H HS1 hb10
  generalize w.heap.size = g at *
  go_wp2_with fail
  refine (bd_spoil w0 d r _ D D _ a _ HB.out ham n hn1 hn2).mono ?_
  rintro e w3 ⟨rfl, hb3⟩
  have HB3 := Lib.hid hb3
  clear hb3
  have k3_1 := watch_cell HB3.out 1
  have k3_3 := watch_cell HB3.out 3
  simp at k3_1 k3_3
  go_wp2_with fail
  refine (br_spoil w0 d r _ (spoilD D a n) D _ a _ HB3.out n hn1 hn2).mono ?_
  rintro e w4 ⟨rfl, hb4⟩
  have HB4 := Lib.hid hb4
  clear hb4
  have k4_1 := watch_cell HB4.out 1
  have k4_3 := watch_cell HB4.out 3
  simp at k4_1 k4_3
  go_wp2_with fail
  go_ret
  exact ⟨rfl, _, bsm_spoil a HBS.out n, HB4.out.drop⟩

set_option maxRecDepth 100000 in
set_option maxHeartbeats 4000000 in
theorem ld_act_createn (w0 : World) (d r : Nat) (D : DiskV) (N : Nat) (hN : N ≤ 999) (Do : Int) (a b : ByteArray) (n m : Int) (bv : Value) (l : List Int) (ha : a.size ≤ 140737488355328) (hb : b.size ≤ 140737488355328) (hn : In64 n) (hm : In64 m) (hl : l.length ≤ 17592186044416)
    (hDo : Do.tmod 12 = -12) (hbs : BSm N D) (w : World) (h : Both w0 w d r (fun _ _ => False) D D (fun _ => False)) (hr : RInts w bv l) :
    Calls Tryz.prog 21 #[.pointer (some ⟨d, 0, none⟩), .pointer (some ⟨r, 0, none⟩), .agg #[.int .i64 Do, .string a, .string b, .int .i64 n, .int .i64 m, bv]] w (ActPost w0 d r N) := by
  obtain ⟨i0, hi0, hz0, hz1, hz2⟩ := info_parts info_int
  have hl2 := hr
  obtain ⟨ba, bc, rfl, _, hlb, _⟩ := hr
  have ham : a.size ≤ maxLen := Nat.le_trans ha (by decide)
  have hbm : b.size ≤ maxLen := Nat.le_trans hb (by decide)
  obtain ⟨hn1, hn2⟩ := hn
  obtain ⟨hm1, hm2⟩ := hm
  obtain ⟨W1, hW1⟩ : ∃ W1, W1 = w.alloc (.cells #[.int .i64 Do, .string a, .string b, .int .i64 n, .int .i64 m, .slice ba l.length bc] 35) := ⟨_, rfl⟩
  have hc1 : Chg (fun _ => False) w W1 := by rw [hW1]; ((repeat (first | exact Chg.refl _ _ | assumption | refine Chg.drewN ?_ _ | refine Chg.drew ?_ | refine Chg.alloc ?_ _ | refine Chg.setCell ?_ (by first | (simp; done) | (simp; omega) | (intro h; simp at h; omega)) _)))
  have hb1 : Blk W1 w.heap.size 35 #[.int .i64 Do, .string a, .string b, .int .i64 n, .int .i64 m, .slice ba l.length bc] := by rw [hW1]; exact Blk.new w _ _
  have hs1 : w.heap.size < W1.heap.size := hb1.lt
  have hs1e : W1.heap.size = w.heap.size + 1 := by rw [hW1]; simp
  have hsrc := fun W (hW : Chg (fun _ => False) w W) => rints_src (w := W) (l := l) (v := .slice ba l.length bc) (hl2.keep hW)
  have HSR := Lib.hid hsrc
  have HW1 := Lib.hid hW1
  have HC1 := Lib.hid hc1
  have HB1 := Lib.hid hb1
  have H := Lib.hid h
  have HBS := Lib.hid hbs
  have HLB := Lib.hid hlb
  have HS1 := Lib.hid hs1e
  have hb10 := hb1.cell 5
  simp at hb10
  clear hsrc hW1 hc1 hb1 h hbs hlb hl2 hs1e
  go_enter Tryz.func21, Tryz.ntmps21
  go_wp2_with (at_builtin; rw [← HW1.out]; refine wpList_own_append _ (by rfl) _ _ _ _ (by rfl) 3 i0 (.int .i64 0) 1 8 Tryz.underlying33 hi0 hz0 hz1 hz2 rfl (.slice none 0 0) 0 [] (by rfl) (Own.nil _ _ _) _ l.length (intCells l) (by rfl) (HSR.out _ HC1.out) (by unfold maxLen; omega) (by omega) ?_)
  intro v' w2 hown hgr hvb
  have hown2 : Own w2 3 1 v' l.length (intCells l) := by simpa using hown
  obtain ⟨va, vc, rfl, _, _, _⟩ := hown2.reads
  have hc2 : Chg (fun _ => False) W1 w2 := (Chg.refl _ _).grown hgr (fun k e _ => by simp [Value.ownBlock] at e)
  have hge : ∀ k, (Value.slice va l.length vc).ownBlock = some k → W1.heap.size ≤ k := fun k hk => by
    rcases hvb with e | e
    · rw [e] at hk; simp [Value.ownBlock] at hk
    · rw [e] at hk; injection hk with hk; omega
  have hb2 := HB1.out.chg hc2 (by simp)
  have hkeep : Both w0 w2 d r (Watch w.heap.size #[.int .i64 Do, .string a, .string b, .int .i64 n, .int .i64 m, .slice ba l.length bc]) D D (fun k => (Value.slice va l.length vc).ownBlock = some k) := H.out.keep (HC1.out.then hc2) (fun k hk => ⟨by have := hge k hk; omega, hown2.lt hk⟩) (fun k o hk => by
    obtain ⟨rfl, rfl⟩ := hk
    exact ⟨Nat.le_refl _, hb2, fun e => by have := hge _ e; omega⟩)
  have HB := Lib.hid hkeep
  have HO := Lib.hid hown2
  have hgl := hb2.lt
  have y1 := hb2.cell 1
  have y2 := hb2.cell 2
  have y3 := hb2.cell 3
  have y4 := hb2.cell 4
  simp at y1 y2 y3 y4
  clear hown hown2 hgr hvb hc2 hge hb2 hkeep HSR HW1 HC1 HB1 H HS1 hb10
  generalize w.heap.size = g at *
  go_wp2_with fail
  go_region_held3 (fun w' => w'.cell? ⟨g, 1, none⟩ = some (.string a))
    (first | (go_keep; done))
    (first
      | (go_at_call 31; refine (bd_create w0 d r _ D D _ N a _ (HB.out.same (by ((repeat (first | exact Chg.refl _ _ | assumption | refine Chg.drewN ?_ _ | refine Chg.drew ?_ | refine Chg.alloc ?_ _ | refine Chg.setCell ?_ (by first | (simp; done) | (simp; omega) | (intro h; simp at h; omega)) _))))) HBS.out (by omega) ham).mono ?_; rintro e w3 ⟨rfl, hb3⟩; have HB3 := Lib.hid hb3; clear hb3; have k3_1 := watch_cell HB3.out 1; simp at k3_1)
      | (go_at_call 33; refine (br_create w0 d r _ (createD D a).2 D _ N a _ (HB3.out.same (by ((repeat (first | exact Chg.refl _ _ | assumption | refine Chg.drewN ?_ _ | refine Chg.drew ?_ | refine Chg.alloc ?_ _ | refine Chg.setCell ?_ (by first | (simp; done) | (simp; omega) | (intro h; simp at h; omega)) _))))) HBS.out (by omega)).mono ?_; rintro e w4 ⟨rfl, hb4⟩; have HB4 := Lib.hid hb4; clear hb4; have k4_1 := watch_cell HB4.out 1; simp at k4_1))
  go_wp2
  go_ret
  refine ⟨?_, _, bsm_create a HBS.out, HB4.out.drop⟩
  simp

set_option maxRecDepth 100000 in
set_option maxHeartbeats 4000000 in
theorem ld_act_appendn (w0 : World) (d r : Nat) (D : DiskV) (N : Nat) (hN : N ≤ 999) (Do : Int) (a b : ByteArray) (n m : Int) (bv : Value) (l : List Int) (ha : a.size ≤ 140737488355328) (hb : b.size ≤ 140737488355328) (hn : In64 n) (hm : In64 m) (hl : l.length ≤ 17592186044416)
    (hDo : Do.tmod 12 = -11) (hbs : BSm N D) (w : World) (h : Both w0 w d r (fun _ _ => False) D D (fun _ => False)) (hr : RInts w bv l) :
    Calls Tryz.prog 21 #[.pointer (some ⟨d, 0, none⟩), .pointer (some ⟨r, 0, none⟩), .agg #[.int .i64 Do, .string a, .string b, .int .i64 n, .int .i64 m, bv]] w (ActPost w0 d r N) := by
  obtain ⟨i0, hi0, hz0, hz1, hz2⟩ := info_parts info_int
  have hl2 := hr
  obtain ⟨ba, bc, rfl, _, hlb, _⟩ := hr
  have ham : a.size ≤ maxLen := Nat.le_trans ha (by decide)
  have hbm : b.size ≤ maxLen := Nat.le_trans hb (by decide)
  obtain ⟨hn1, hn2⟩ := hn
  obtain ⟨hm1, hm2⟩ := hm
  obtain ⟨W1, hW1⟩ : ∃ W1, W1 = w.alloc (.cells #[.int .i64 Do, .string a, .string b, .int .i64 n, .int .i64 m, .slice ba l.length bc] 35) := ⟨_, rfl⟩
  have hc1 : Chg (fun _ => False) w W1 := by rw [hW1]; ((repeat (first | exact Chg.refl _ _ | assumption | refine Chg.drewN ?_ _ | refine Chg.drew ?_ | refine Chg.alloc ?_ _ | refine Chg.setCell ?_ (by first | (simp; done) | (simp; omega) | (intro h; simp at h; omega)) _)))
  have hb1 : Blk W1 w.heap.size 35 #[.int .i64 Do, .string a, .string b, .int .i64 n, .int .i64 m, .slice ba l.length bc] := by rw [hW1]; exact Blk.new w _ _
  have hs1 : w.heap.size < W1.heap.size := hb1.lt
  have hs1e : W1.heap.size = w.heap.size + 1 := by rw [hW1]; simp
  have hsrc := fun W (hW : Chg (fun _ => False) w W) => rints_src (w := W) (l := l) (v := .slice ba l.length bc) (hl2.keep hW)
  have HSR := Lib.hid hsrc
  have HW1 := Lib.hid hW1
  have HC1 := Lib.hid hc1
  have HB1 := Lib.hid hb1
  have H := Lib.hid h
  have HBS := Lib.hid hbs
  have HLB := Lib.hid hlb
  have HS1 := Lib.hid hs1e
  have hb10 := hb1.cell 5
  simp at hb10
  clear hsrc hW1 hc1 hb1 h hbs hlb hl2 hs1e
  go_enter Tryz.func21, Tryz.ntmps21
  go_wp2_with (at_builtin; rw [← HW1.out]; refine wpList_own_append _ (by rfl) _ _ _ _ (by rfl) 3 i0 (.int .i64 0) 1 8 Tryz.underlying33 hi0 hz0 hz1 hz2 rfl (.slice none 0 0) 0 [] (by rfl) (Own.nil _ _ _) _ l.length (intCells l) (by rfl) (HSR.out _ HC1.out) (by unfold maxLen; omega) (by omega) ?_)
  intro v' w2 hown hgr hvb
  have hown2 : Own w2 3 1 v' l.length (intCells l) := by simpa using hown
  obtain ⟨va, vc, rfl, _, _, _⟩ := hown2.reads
  have hc2 : Chg (fun _ => False) W1 w2 := (Chg.refl _ _).grown hgr (fun k e _ => by simp [Value.ownBlock] at e)
  have hge : ∀ k, (Value.slice va l.length vc).ownBlock = some k → W1.heap.size ≤ k := fun k hk => by
    rcases hvb with e | e
    · rw [e] at hk; simp [Value.ownBlock] at hk
    · rw [e] at hk; injection hk with hk; omega
  have hb2 := HB1.out.chg hc2 (by simp)
  have hkeep : Both w0 w2 d r (Watch w.heap.size #[.int .i64 Do, .string a, .string b, .int .i64 n, .int .i64 m, .slice ba l.length bc]) D D (fun k => (Value.slice va l.length vc).ownBlock = some k) := H.out.keep (HC1.out.then hc2) (fun k hk => ⟨by have := hge k hk; omega, hown2.lt hk⟩) (fun k o hk => by
    obtain ⟨rfl, rfl⟩ := hk
    exact ⟨Nat.le_refl _, hb2, fun e => by have := hge _ e; omega⟩)
  have HB := Lib.hid hkeep
  have HO := Lib.hid hown2
  have hgl := hb2.lt
  have y1 := hb2.cell 1
  have y2 := hb2.cell 2
  have y3 := hb2.cell 3
  have y4 := hb2.cell 4
  simp at y1 y2 y3 y4
  clear hown hown2 hgr hvb hc2 hge hb2 hkeep HSR HW1 HC1 HB1 H HS1 hb10
  generalize w.heap.size = g at *
  go_wp2_with fail
  go_region_held3 (fun w' => w'.cell? ⟨g, 1, none⟩ = some (.string a) ∧ w'.cell? ⟨g, 2, none⟩ = some (.string b))
    (first | (go_keep; done))
    (first
      | (go_at_call 39; refine (bd_append w0 d r _ D D _ N a b _ (HB.out.same (by ((repeat (first | exact Chg.refl _ _ | assumption | refine Chg.drewN ?_ _ | refine Chg.drew ?_ | refine Chg.alloc ?_ _ | refine Chg.setCell ?_ (by first | (simp; done) | (simp; omega) | (intro h; simp at h; omega)) _))))) HBS.out (by omega) ham hb).mono ?_; rintro e w3 ⟨rfl, hb3⟩; have HB3 := Lib.hid hb3; clear hb3; have k3_1 := watch_cell HB3.out 1; have k3_2 := watch_cell HB3.out 2; simp at k3_1 k3_2)
      | (go_at_call 43; refine (br_append w0 d r _ (appendD D a b).2 D _ N a b _ (HB3.out.same (by ((repeat (first | exact Chg.refl _ _ | assumption | refine Chg.drewN ?_ _ | refine Chg.drew ?_ | refine Chg.alloc ?_ _ | refine Chg.setCell ?_ (by first | (simp; done) | (simp; omega) | (intro h; simp at h; omega)) _))))) HBS.out (by omega) hb).mono ?_; rintro e w4 ⟨rfl, hb4⟩; have HB4 := Lib.hid hb4; clear hb4; have k4_1 := watch_cell HB4.out 1; have k4_2 := watch_cell HB4.out 2; simp at k4_1 k4_2))
  go_wp2
  go_ret
  refine ⟨?_, _, bsm_append a b HBS.out, HB4.out.drop⟩
  simp

set_option maxRecDepth 100000 in
set_option maxHeartbeats 4000000 in
theorem ld_act_syncn (w0 : World) (d r : Nat) (D : DiskV) (N : Nat) (hN : N ≤ 999) (Do : Int) (a b : ByteArray) (n m : Int) (bv : Value) (l : List Int) (ha : a.size ≤ 140737488355328) (hb : b.size ≤ 140737488355328) (hn : In64 n) (hm : In64 m) (hl : l.length ≤ 17592186044416)
    (hDo : Do.tmod 12 = -10) (hbs : BSm N D) (w : World) (h : Both w0 w d r (fun _ _ => False) D D (fun _ => False)) (hr : RInts w bv l) :
    Calls Tryz.prog 21 #[.pointer (some ⟨d, 0, none⟩), .pointer (some ⟨r, 0, none⟩), .agg #[.int .i64 Do, .string a, .string b, .int .i64 n, .int .i64 m, bv]] w (ActPost w0 d r N) := by
  obtain ⟨i0, hi0, hz0, hz1, hz2⟩ := info_parts info_int
  have hl2 := hr
  obtain ⟨ba, bc, rfl, _, hlb, _⟩ := hr
  have ham : a.size ≤ maxLen := Nat.le_trans ha (by decide)
  have hbm : b.size ≤ maxLen := Nat.le_trans hb (by decide)
  obtain ⟨hn1, hn2⟩ := hn
  obtain ⟨hm1, hm2⟩ := hm
  obtain ⟨W1, hW1⟩ : ∃ W1, W1 = w.alloc (.cells #[.int .i64 Do, .string a, .string b, .int .i64 n, .int .i64 m, .slice ba l.length bc] 35) := ⟨_, rfl⟩
  have hc1 : Chg (fun _ => False) w W1 := by rw [hW1]; ((repeat (first | exact Chg.refl _ _ | assumption | refine Chg.drewN ?_ _ | refine Chg.drew ?_ | refine Chg.alloc ?_ _ | refine Chg.setCell ?_ (by first | (simp; done) | (simp; omega) | (intro h; simp at h; omega)) _)))
  have hb1 : Blk W1 w.heap.size 35 #[.int .i64 Do, .string a, .string b, .int .i64 n, .int .i64 m, .slice ba l.length bc] := by rw [hW1]; exact Blk.new w _ _
  have hs1 : w.heap.size < W1.heap.size := hb1.lt
  have hs1e : W1.heap.size = w.heap.size + 1 := by rw [hW1]; simp
  have hsrc := fun W (hW : Chg (fun _ => False) w W) => rints_src (w := W) (l := l) (v := .slice ba l.length bc) (hl2.keep hW)
  have HSR := Lib.hid hsrc
  have HW1 := Lib.hid hW1
  have HC1 := Lib.hid hc1
  have HB1 := Lib.hid hb1
  have H := Lib.hid h
  have HBS := Lib.hid hbs
  have HLB := Lib.hid hlb
  have HS1 := Lib.hid hs1e
  have hb10 := hb1.cell 5
  simp at hb10
  clear hsrc hW1 hc1 hb1 h hbs hlb hl2 hs1e
  go_enter Tryz.func21, Tryz.ntmps21
  go_wp2_with (at_builtin; rw [← HW1.out]; refine wpList_own_append _ (by rfl) _ _ _ _ (by rfl) 3 i0 (.int .i64 0) 1 8 Tryz.underlying33 hi0 hz0 hz1 hz2 rfl (.slice none 0 0) 0 [] (by rfl) (Own.nil _ _ _) _ l.length (intCells l) (by rfl) (HSR.out _ HC1.out) (by unfold maxLen; omega) (by omega) ?_)
  intro v' w2 hown hgr hvb
  have hown2 : Own w2 3 1 v' l.length (intCells l) := by simpa using hown
  obtain ⟨va, vc, rfl, _, _, _⟩ := hown2.reads
  have hc2 : Chg (fun _ => False) W1 w2 := (Chg.refl _ _).grown hgr (fun k e _ => by simp [Value.ownBlock] at e)
  have hge : ∀ k, (Value.slice va l.length vc).ownBlock = some k → W1.heap.size ≤ k := fun k hk => by
    rcases hvb with e | e
    · rw [e] at hk; simp [Value.ownBlock] at hk
    · rw [e] at hk; injection hk with hk; omega
  have hb2 := HB1.out.chg hc2 (by simp)
  have hkeep : Both w0 w2 d r (Watch w.heap.size #[.int .i64 Do, .string a, .string b, .int .i64 n, .int .i64 m, .slice ba l.length bc]) D D (fun k => (Value.slice va l.length vc).ownBlock = some k) := H.out.keep (HC1.out.then hc2) (fun k hk => ⟨by have := hge k hk; omega, hown2.lt hk⟩) (fun k o hk => by
    obtain ⟨rfl, rfl⟩ := hk
    exact ⟨Nat.le_refl _, hb2, fun e => by have := hge _ e; omega⟩)
  have HB := Lib.hid hkeep
  have HO := Lib.hid hown2
  have hgl := hb2.lt
  have y1 := hb2.cell 1
  have y2 := hb2.cell 2
  have y3 := hb2.cell 3
  have y4 := hb2.cell 4
  simp at y1 y2 y3 y4
  clear hown hown2 hgr hvb hc2 hge hb2 hkeep HSR HW1 HC1 HB1 H HS1 hb10
  generalize w.heap.size = g at *
  go_wp2_with fail
  go_region_held3 (fun w' => w'.cell? ⟨g, 1, none⟩ = some (.string a))
    (first | (go_keep; done))
    (first
      | (go_at_call 41; refine (bd_sync w0 d r _ D D _ N a _ (HB.out.same (by ((repeat (first | exact Chg.refl _ _ | assumption | refine Chg.drewN ?_ _ | refine Chg.drew ?_ | refine Chg.alloc ?_ _ | refine Chg.setCell ?_ (by first | (simp; done) | (simp; omega) | (intro h; simp at h; omega)) _))))) HBS.out (by omega) ham).mono ?_; rintro e w3 ⟨rfl, hb3⟩; have HB3 := Lib.hid hb3; clear hb3; have k3_1 := watch_cell HB3.out 1; simp at k3_1)
      | (go_at_call 44; refine (br_sync w0 d r _ (syncD D a).2 D _ N a _ (HB3.out.same (by ((repeat (first | exact Chg.refl _ _ | assumption | refine Chg.drewN ?_ _ | refine Chg.drew ?_ | refine Chg.alloc ?_ _ | refine Chg.setCell ?_ (by first | (simp; done) | (simp; omega) | (intro h; simp at h; omega)) _))))) HBS.out (by omega)).mono ?_; rintro e w4 ⟨rfl, hb4⟩; have HB4 := Lib.hid hb4; clear hb4; have k4_1 := watch_cell HB4.out 1; simp at k4_1))
  go_wp2
  go_ret
  refine ⟨?_, _, bsm_sync a HBS.out, HB4.out.drop⟩
  simp

set_option maxRecDepth 100000 in
set_option maxHeartbeats 4000000 in
theorem ld_act_syncdirn (w0 : World) (d r : Nat) (D : DiskV) (N : Nat) (hN : N ≤ 999) (Do : Int) (a b : ByteArray) (n m : Int) (bv : Value) (l : List Int) (ha : a.size ≤ 140737488355328) (hb : b.size ≤ 140737488355328) (hn : In64 n) (hm : In64 m) (hl : l.length ≤ 17592186044416)
    (hDo : Do.tmod 12 = -9) (hbs : BSm N D) (w : World) (h : Both w0 w d r (fun _ _ => False) D D (fun _ => False)) (hr : RInts w bv l) :
    Calls Tryz.prog 21 #[.pointer (some ⟨d, 0, none⟩), .pointer (some ⟨r, 0, none⟩), .agg #[.int .i64 Do, .string a, .string b, .int .i64 n, .int .i64 m, bv]] w (ActPost w0 d r N) := by
  obtain ⟨i0, hi0, hz0, hz1, hz2⟩ := info_parts info_int
  have hl2 := hr
  obtain ⟨ba, bc, rfl, _, hlb, _⟩ := hr
  have ham : a.size ≤ maxLen := Nat.le_trans ha (by decide)
  have hbm : b.size ≤ maxLen := Nat.le_trans hb (by decide)
  obtain ⟨hn1, hn2⟩ := hn
  obtain ⟨hm1, hm2⟩ := hm
  obtain ⟨W1, hW1⟩ : ∃ W1, W1 = w.alloc (.cells #[.int .i64 Do, .string a, .string b, .int .i64 n, .int .i64 m, .slice ba l.length bc] 35) := ⟨_, rfl⟩
  have hc1 : Chg (fun _ => False) w W1 := by rw [hW1]; ((repeat (first | exact Chg.refl _ _ | assumption | refine Chg.drewN ?_ _ | refine Chg.drew ?_ | refine Chg.alloc ?_ _ | refine Chg.setCell ?_ (by first | (simp; done) | (simp; omega) | (intro h; simp at h; omega)) _)))
  have hb1 : Blk W1 w.heap.size 35 #[.int .i64 Do, .string a, .string b, .int .i64 n, .int .i64 m, .slice ba l.length bc] := by rw [hW1]; exact Blk.new w _ _
  have hs1 : w.heap.size < W1.heap.size := hb1.lt
  have hs1e : W1.heap.size = w.heap.size + 1 := by rw [hW1]; simp
  have hsrc := fun W (hW : Chg (fun _ => False) w W) => rints_src (w := W) (l := l) (v := .slice ba l.length bc) (hl2.keep hW)
  have HSR := Lib.hid hsrc
  have HW1 := Lib.hid hW1
  have HC1 := Lib.hid hc1
  have HB1 := Lib.hid hb1
  have H := Lib.hid h
  have HBS := Lib.hid hbs
  have HLB := Lib.hid hlb
  have HS1 := Lib.hid hs1e
  have hb10 := hb1.cell 5
  simp at hb10
  clear hsrc hW1 hc1 hb1 h hbs hlb hl2 hs1e
  go_enter Tryz.func21, Tryz.ntmps21
  go_wp2_with (at_builtin; rw [← HW1.out]; refine wpList_own_append _ (by rfl) _ _ _ _ (by rfl) 3 i0 (.int .i64 0) 1 8 Tryz.underlying33 hi0 hz0 hz1 hz2 rfl (.slice none 0 0) 0 [] (by rfl) (Own.nil _ _ _) _ l.length (intCells l) (by rfl) (HSR.out _ HC1.out) (by unfold maxLen; omega) (by omega) ?_)
  intro v' w2 hown hgr hvb
  have hown2 : Own w2 3 1 v' l.length (intCells l) := by simpa using hown
  obtain ⟨va, vc, rfl, _, _, _⟩ := hown2.reads
  have hc2 : Chg (fun _ => False) W1 w2 := (Chg.refl _ _).grown hgr (fun k e _ => by simp [Value.ownBlock] at e)
  have hge : ∀ k, (Value.slice va l.length vc).ownBlock = some k → W1.heap.size ≤ k := fun k hk => by
    rcases hvb with e | e
    · rw [e] at hk; simp [Value.ownBlock] at hk
    · rw [e] at hk; injection hk with hk; omega
  have hb2 := HB1.out.chg hc2 (by simp)
  have hkeep : Both w0 w2 d r (Watch w.heap.size #[.int .i64 Do, .string a, .string b, .int .i64 n, .int .i64 m, .slice ba l.length bc]) D D (fun k => (Value.slice va l.length vc).ownBlock = some k) := H.out.keep (HC1.out.then hc2) (fun k hk => ⟨by have := hge k hk; omega, hown2.lt hk⟩) (fun k o hk => by
    obtain ⟨rfl, rfl⟩ := hk
    exact ⟨Nat.le_refl _, hb2, fun e => by have := hge _ e; omega⟩)
  have HB := Lib.hid hkeep
  have HO := Lib.hid hown2
  have hgl := hb2.lt
  have y1 := hb2.cell 1
  have y2 := hb2.cell 2
  have y3 := hb2.cell 3
  have y4 := hb2.cell 4
  simp at y1 y2 y3 y4
  clear hown hown2 hgr hvb hc2 hge hb2 hkeep HSR HW1 HC1 HB1 H HS1 hb10
  generalize w.heap.size = g at *
  go_wp2_with fail
  refine (bd_syncdir w0 d r _ D D _ N _ HB.out HBS.out (by omega)).mono ?_
  rintro e w3 ⟨rfl, hb3⟩
  have HB3 := Lib.hid hb3
  clear hb3
  go_wp2_with fail
  refine (br_syncdir w0 d r _ (syncDirD D).2 D _ N _ HB3.out HBS.out (by omega)).mono ?_
  rintro e w4 ⟨rfl, hb4⟩
  have HB4 := Lib.hid hb4
  clear hb4
  go_wp2_with fail
  go_ret
  refine ⟨?_, _, bsm_syncdir HBS.out, HB4.out.drop⟩
  simp

set_option maxRecDepth 100000 in
set_option maxHeartbeats 4000000 in
theorem ld_act_renamen (w0 : World) (d r : Nat) (D : DiskV) (N : Nat) (hN : N ≤ 999) (Do : Int) (a b : ByteArray) (n m : Int) (bv : Value) (l : List Int) (ha : a.size ≤ 140737488355328) (hb : b.size ≤ 140737488355328) (hn : In64 n) (hm : In64 m) (hl : l.length ≤ 17592186044416)
    (hDo : Do.tmod 12 = -8) (hbs : BSm N D) (w : World) (h : Both w0 w d r (fun _ _ => False) D D (fun _ => False)) (hr : RInts w bv l) :
    Calls Tryz.prog 21 #[.pointer (some ⟨d, 0, none⟩), .pointer (some ⟨r, 0, none⟩), .agg #[.int .i64 Do, .string a, .string b, .int .i64 n, .int .i64 m, bv]] w (ActPost w0 d r N) := by
  obtain ⟨i0, hi0, hz0, hz1, hz2⟩ := info_parts info_int
  have hl2 := hr
  obtain ⟨ba, bc, rfl, _, hlb, _⟩ := hr
  have ham : a.size ≤ maxLen := Nat.le_trans ha (by decide)
  have hbm : b.size ≤ maxLen := Nat.le_trans hb (by decide)
  obtain ⟨hn1, hn2⟩ := hn
  obtain ⟨hm1, hm2⟩ := hm
  obtain ⟨W1, hW1⟩ : ∃ W1, W1 = w.alloc (.cells #[.int .i64 Do, .string a, .string b, .int .i64 n, .int .i64 m, .slice ba l.length bc] 35) := ⟨_, rfl⟩
  have hc1 : Chg (fun _ => False) w W1 := by rw [hW1]; ((repeat (first | exact Chg.refl _ _ | assumption | refine Chg.drewN ?_ _ | refine Chg.drew ?_ | refine Chg.alloc ?_ _ | refine Chg.setCell ?_ (by first | (simp; done) | (simp; omega) | (intro h; simp at h; omega)) _)))
  have hb1 : Blk W1 w.heap.size 35 #[.int .i64 Do, .string a, .string b, .int .i64 n, .int .i64 m, .slice ba l.length bc] := by rw [hW1]; exact Blk.new w _ _
  have hs1 : w.heap.size < W1.heap.size := hb1.lt
  have hs1e : W1.heap.size = w.heap.size + 1 := by rw [hW1]; simp
  have hsrc := fun W (hW : Chg (fun _ => False) w W) => rints_src (w := W) (l := l) (v := .slice ba l.length bc) (hl2.keep hW)
  have HSR := Lib.hid hsrc
  have HW1 := Lib.hid hW1
  have HC1 := Lib.hid hc1
  have HB1 := Lib.hid hb1
  have H := Lib.hid h
  have HBS := Lib.hid hbs
  have HLB := Lib.hid hlb
  have HS1 := Lib.hid hs1e
  have hb10 := hb1.cell 5
  simp at hb10
  clear hsrc hW1 hc1 hb1 h hbs hlb hl2 hs1e
  go_enter Tryz.func21, Tryz.ntmps21
  go_wp2_with (at_builtin; rw [← HW1.out]; refine wpList_own_append _ (by rfl) _ _ _ _ (by rfl) 3 i0 (.int .i64 0) 1 8 Tryz.underlying33 hi0 hz0 hz1 hz2 rfl (.slice none 0 0) 0 [] (by rfl) (Own.nil _ _ _) _ l.length (intCells l) (by rfl) (HSR.out _ HC1.out) (by unfold maxLen; omega) (by omega) ?_)
  intro v' w2 hown hgr hvb
  have hown2 : Own w2 3 1 v' l.length (intCells l) := by simpa using hown
  obtain ⟨va, vc, rfl, _, _, _⟩ := hown2.reads
  have hc2 : Chg (fun _ => False) W1 w2 := (Chg.refl _ _).grown hgr (fun k e _ => by simp [Value.ownBlock] at e)
  have hge : ∀ k, (Value.slice va l.length vc).ownBlock = some k → W1.heap.size ≤ k := fun k hk => by
    rcases hvb with e | e
    · rw [e] at hk; simp [Value.ownBlock] at hk
    · rw [e] at hk; injection hk with hk; omega
  have hb2 := HB1.out.chg hc2 (by simp)
  have hkeep : Both w0 w2 d r (Watch w.heap.size #[.int .i64 Do, .string a, .string b, .int .i64 n, .int .i64 m, .slice ba l.length bc]) D D (fun k => (Value.slice va l.length vc).ownBlock = some k) := H.out.keep (HC1.out.then hc2) (fun k hk => ⟨by have := hge k hk; omega, hown2.lt hk⟩) (fun k o hk => by
    obtain ⟨rfl, rfl⟩ := hk
    exact ⟨Nat.le_refl _, hb2, fun e => by have := hge _ e; omega⟩)
  have HB := Lib.hid hkeep
  have HO := Lib.hid hown2
  have hgl := hb2.lt
  have y1 := hb2.cell 1
  have y2 := hb2.cell 2
  have y3 := hb2.cell 3
  have y4 := hb2.cell 4
  simp at y1 y2 y3 y4
  clear hown hown2 hgr hvb hc2 hge hb2 hkeep HSR HW1 HC1 HB1 H HS1 hb10
  generalize w.heap.size = g at *
  go_wp2_with fail
  go_region_held3 (fun w' => w'.cell? ⟨g, 1, none⟩ = some (.string a) ∧ w'.cell? ⟨g, 2, none⟩ = some (.string b))
    (first | (go_keep; done))
    (first
      | (go_at_call 53; refine (bd_rename w0 d r _ D D _ N a b _ (HB.out.same (by ((repeat (first | exact Chg.refl _ _ | assumption | refine Chg.drewN ?_ _ | refine Chg.drew ?_ | refine Chg.alloc ?_ _ | refine Chg.setCell ?_ (by first | (simp; done) | (simp; omega) | (intro h; simp at h; omega)) _))))) HBS.out (by omega) ham hbm).mono ?_; rintro e w3 ⟨rfl, hb3⟩; have HB3 := Lib.hid hb3; clear hb3; have k3_1 := watch_cell HB3.out 1; have k3_2 := watch_cell HB3.out 2; simp at k3_1 k3_2)
      | (go_at_call 54; refine (br_rename w0 d r _ (renameD D a b).2 D _ N a b _ (HB3.out.same (by ((repeat (first | exact Chg.refl _ _ | assumption | refine Chg.drewN ?_ _ | refine Chg.drew ?_ | refine Chg.alloc ?_ _ | refine Chg.setCell ?_ (by first | (simp; done) | (simp; omega) | (intro h; simp at h; omega)) _))))) HBS.out (by omega) hbm).mono ?_; rintro e w4 ⟨rfl, hb4⟩; have HB4 := Lib.hid hb4; clear hb4; have k4_1 := watch_cell HB4.out 1; have k4_2 := watch_cell HB4.out 2; simp at k4_1 k4_2))
  go_wp2
  go_ret
  refine ⟨?_, _, bsm_rename a b HBS.out, HB4.out.drop⟩
  simp

set_option maxRecDepth 100000 in
set_option maxHeartbeats 4000000 in
theorem ld_act_removen (w0 : World) (d r : Nat) (D : DiskV) (N : Nat) (hN : N ≤ 999) (Do : Int) (a b : ByteArray) (n m : Int) (bv : Value) (l : List Int) (ha : a.size ≤ 140737488355328) (hb : b.size ≤ 140737488355328) (hn : In64 n) (hm : In64 m) (hl : l.length ≤ 17592186044416)
    (hDo : Do.tmod 12 = -7) (hbs : BSm N D) (w : World) (h : Both w0 w d r (fun _ _ => False) D D (fun _ => False)) (hr : RInts w bv l) :
    Calls Tryz.prog 21 #[.pointer (some ⟨d, 0, none⟩), .pointer (some ⟨r, 0, none⟩), .agg #[.int .i64 Do, .string a, .string b, .int .i64 n, .int .i64 m, bv]] w (ActPost w0 d r N) := by
  obtain ⟨i0, hi0, hz0, hz1, hz2⟩ := info_parts info_int
  have hl2 := hr
  obtain ⟨ba, bc, rfl, _, hlb, _⟩ := hr
  have ham : a.size ≤ maxLen := Nat.le_trans ha (by decide)
  have hbm : b.size ≤ maxLen := Nat.le_trans hb (by decide)
  obtain ⟨hn1, hn2⟩ := hn
  obtain ⟨hm1, hm2⟩ := hm
  obtain ⟨W1, hW1⟩ : ∃ W1, W1 = w.alloc (.cells #[.int .i64 Do, .string a, .string b, .int .i64 n, .int .i64 m, .slice ba l.length bc] 35) := ⟨_, rfl⟩
  have hc1 : Chg (fun _ => False) w W1 := by rw [hW1]; ((repeat (first | exact Chg.refl _ _ | assumption | refine Chg.drewN ?_ _ | refine Chg.drew ?_ | refine Chg.alloc ?_ _ | refine Chg.setCell ?_ (by first | (simp; done) | (simp; omega) | (intro h; simp at h; omega)) _)))
  have hb1 : Blk W1 w.heap.size 35 #[.int .i64 Do, .string a, .string b, .int .i64 n, .int .i64 m, .slice ba l.length bc] := by rw [hW1]; exact Blk.new w _ _
  have hs1 : w.heap.size < W1.heap.size := hb1.lt
  have hs1e : W1.heap.size = w.heap.size + 1 := by rw [hW1]; simp
  have hsrc := fun W (hW : Chg (fun _ => False) w W) => rints_src (w := W) (l := l) (v := .slice ba l.length bc) (hl2.keep hW)
  have HSR := Lib.hid hsrc
  have HW1 := Lib.hid hW1
  have HC1 := Lib.hid hc1
  have HB1 := Lib.hid hb1
  have H := Lib.hid h
  have HBS := Lib.hid hbs
  have HLB := Lib.hid hlb
  have HS1 := Lib.hid hs1e
  have hb10 := hb1.cell 5
  simp at hb10
  clear hsrc hW1 hc1 hb1 h hbs hlb hl2 hs1e
  go_enter Tryz.func21, Tryz.ntmps21
  go_wp2_with (at_builtin; rw [← HW1.out]; refine wpList_own_append _ (by rfl) _ _ _ _ (by rfl) 3 i0 (.int .i64 0) 1 8 Tryz.underlying33 hi0 hz0 hz1 hz2 rfl (.slice none 0 0) 0 [] (by rfl) (Own.nil _ _ _) _ l.length (intCells l) (by rfl) (HSR.out _ HC1.out) (by unfold maxLen; omega) (by omega) ?_)
  intro v' w2 hown hgr hvb
  have hown2 : Own w2 3 1 v' l.length (intCells l) := by simpa using hown
  obtain ⟨va, vc, rfl, _, _, _⟩ := hown2.reads
  have hc2 : Chg (fun _ => False) W1 w2 := (Chg.refl _ _).grown hgr (fun k e _ => by simp [Value.ownBlock] at e)
  have hge : ∀ k, (Value.slice va l.length vc).ownBlock = some k → W1.heap.size ≤ k := fun k hk => by
    rcases hvb with e | e
    · rw [e] at hk; simp [Value.ownBlock] at hk
    · rw [e] at hk; injection hk with hk; omega
  have hb2 := HB1.out.chg hc2 (by simp)
  have hkeep : Both w0 w2 d r (Watch w.heap.size #[.int .i64 Do, .string a, .string b, .int .i64 n, .int .i64 m, .slice ba l.length bc]) D D (fun k => (Value.slice va l.length vc).ownBlock = some k) := H.out.keep (HC1.out.then hc2) (fun k hk => ⟨by have := hge k hk; omega, hown2.lt hk⟩) (fun k o hk => by
    obtain ⟨rfl, rfl⟩ := hk
    exact ⟨Nat.le_refl _, hb2, fun e => by have := hge _ e; omega⟩)
  have HB := Lib.hid hkeep
  have HO := Lib.hid hown2
  have hgl := hb2.lt
  have y1 := hb2.cell 1
  have y2 := hb2.cell 2
  have y3 := hb2.cell 3
  have y4 := hb2.cell 4
  simp at y1 y2 y3 y4
  clear hown hown2 hgr hvb hc2 hge hb2 hkeep HSR HW1 HC1 HB1 H HS1 hb10
  generalize w.heap.size = g at *
  go_wp2_with fail
  go_region_held3 (fun w' => w'.cell? ⟨g, 1, none⟩ = some (.string a))
    (first | (go_keep; done))
    (first
      | (go_at_call 51; refine (bd_remove w0 d r _ D D _ N a _ (HB.out.same (by ((repeat (first | exact Chg.refl _ _ | assumption | refine Chg.drewN ?_ _ | refine Chg.drew ?_ | refine Chg.alloc ?_ _ | refine Chg.setCell ?_ (by first | (simp; done) | (simp; omega) | (intro h; simp at h; omega)) _))))) HBS.out (by omega) ham).mono ?_; rintro e w3 ⟨rfl, hb3⟩; have HB3 := Lib.hid hb3; clear hb3; have k3_1 := watch_cell HB3.out 1; simp at k3_1)
      | (go_at_call 52; refine (br_remove w0 d r _ (removeD D a).2 D _ N a _ (HB3.out.same (by ((repeat (first | exact Chg.refl _ _ | assumption | refine Chg.drewN ?_ _ | refine Chg.drew ?_ | refine Chg.alloc ?_ _ | refine Chg.setCell ?_ (by first | (simp; done) | (simp; omega) | (intro h; simp at h; omega)) _))))) HBS.out (by omega)).mono ?_; rintro e w4 ⟨rfl, hb4⟩; have HB4 := Lib.hid hb4; clear hb4; have k4_1 := watch_cell HB4.out 1; simp at k4_1))
  go_wp2
  go_ret
  refine ⟨?_, _, bsm_remove a HBS.out, HB4.out.drop⟩
  simp

set_option maxRecDepth 100000 in
set_option maxHeartbeats 4000000 in
theorem ld_act_readn (w0 : World) (d r : Nat) (D : DiskV) (N : Nat) (hN : N ≤ 999) (Do : Int) (a b : ByteArray) (n m : Int) (bv : Value) (l : List Int) (ha : a.size ≤ 140737488355328) (hb : b.size ≤ 140737488355328) (hn : In64 n) (hm : In64 m) (hl : l.length ≤ 17592186044416)
    (hDo : Do.tmod 12 = -6) (hbs : BSm N D) (w : World) (h : Both w0 w d r (fun _ _ => False) D D (fun _ => False)) (hr : RInts w bv l) :
    Calls Tryz.prog 21 #[.pointer (some ⟨d, 0, none⟩), .pointer (some ⟨r, 0, none⟩), .agg #[.int .i64 Do, .string a, .string b, .int .i64 n, .int .i64 m, bv]] w (ActPost w0 d r N) := by
  obtain ⟨i0, hi0, hz0, hz1, hz2⟩ := info_parts info_int
  have hl2 := hr
  obtain ⟨ba, bc, rfl, _, hlb, _⟩ := hr
  have ham : a.size ≤ maxLen := Nat.le_trans ha (by decide)
  have hbm : b.size ≤ maxLen := Nat.le_trans hb (by decide)
  obtain ⟨hn1, hn2⟩ := hn
  obtain ⟨hm1, hm2⟩ := hm
  obtain ⟨W1, hW1⟩ : ∃ W1, W1 = w.alloc (.cells #[.int .i64 Do, .string a, .string b, .int .i64 n, .int .i64 m, .slice ba l.length bc] 35) := ⟨_, rfl⟩
  have hc1 : Chg (fun _ => False) w W1 := by rw [hW1]; ((repeat (first | exact Chg.refl _ _ | assumption | refine Chg.drewN ?_ _ | refine Chg.drew ?_ | refine Chg.alloc ?_ _ | refine Chg.setCell ?_ (by first | (simp; done) | (simp; omega) | (intro h; simp at h; omega)) _)))
  have hb1 : Blk W1 w.heap.size 35 #[.int .i64 Do, .string a, .string b, .int .i64 n, .int .i64 m, .slice ba l.length bc] := by rw [hW1]; exact Blk.new w _ _
  have hs1 : w.heap.size < W1.heap.size := hb1.lt
  have hs1e : W1.heap.size = w.heap.size + 1 := by rw [hW1]; simp
  have hsrc := fun W (hW : Chg (fun _ => False) w W) => rints_src (w := W) (l := l) (v := .slice ba l.length bc) (hl2.keep hW)
  have HSR := Lib.hid hsrc
  have HW1 := Lib.hid hW1
  have HC1 := Lib.hid hc1
  have HB1 := Lib.hid hb1
  have H := Lib.hid h
  have HBS := Lib.hid hbs
  have HLB := Lib.hid hlb
  have HS1 := Lib.hid hs1e
  have hb10 := hb1.cell 5
  simp at hb10
  clear hsrc hW1 hc1 hb1 h hbs hlb hl2 hs1e
  go_enter Tryz.func21, Tryz.ntmps21
  go_wp2_with (at_builtin; rw [← HW1.out]; refine wpList_own_append _ (by rfl) _ _ _ _ (by rfl) 3 i0 (.int .i64 0) 1 8 Tryz.underlying33 hi0 hz0 hz1 hz2 rfl (.slice none 0 0) 0 [] (by rfl) (Own.nil _ _ _) _ l.length (intCells l) (by rfl) (HSR.out _ HC1.out) (by unfold maxLen; omega) (by omega) ?_)
  intro v' w2 hown hgr hvb
  have hown2 : Own w2 3 1 v' l.length (intCells l) := by simpa using hown
  obtain ⟨va, vc, rfl, _, _, _⟩ := hown2.reads
  have hc2 : Chg (fun _ => False) W1 w2 := (Chg.refl _ _).grown hgr (fun k e _ => by simp [Value.ownBlock] at e)
  have hge : ∀ k, (Value.slice va l.length vc).ownBlock = some k → W1.heap.size ≤ k := fun k hk => by
    rcases hvb with e | e
    · rw [e] at hk; simp [Value.ownBlock] at hk
    · rw [e] at hk; injection hk with hk; omega
  have hb2 := HB1.out.chg hc2 (by simp)
  have hkeep : Both w0 w2 d r (Watch w.heap.size #[.int .i64 Do, .string a, .string b, .int .i64 n, .int .i64 m, .slice ba l.length bc]) D D (fun k => (Value.slice va l.length vc).ownBlock = some k) := H.out.keep (HC1.out.then hc2) (fun k hk => ⟨by have := hge k hk; omega, hown2.lt hk⟩) (fun k o hk => by
    obtain ⟨rfl, rfl⟩ := hk
    exact ⟨Nat.le_refl _, hb2, fun e => by have := hge _ e; omega⟩)
  have HB := Lib.hid hkeep
  have HO := Lib.hid hown2
  have hgl := hb2.lt
  have y1 := hb2.cell 1
  have y2 := hb2.cell 2
  have y3 := hb2.cell 3
  have y4 := hb2.cell 4
  simp at y1 y2 y3 y4
  clear hown hown2 hgr hvb hc2 hge hb2 hkeep HSR HW1 HC1 HB1 H HS1 hb10
  generalize w.heap.size = g at *
  go_wp2_with fail
  refine (bd_read w0 d r _ D D _ a _ HB.out ham).mono ?_
  rintro e w3 ⟨rfl, hb3⟩
  have HB3 := Lib.hid hb3
  clear hb3
  have k3_1 := watch_cell HB3.out 1
  have k3_3 := watch_cell HB3.out 3
  have k3_4 := watch_cell HB3.out 4
  simp at k3_1 k3_3 k3_4
  go_wp2_with fail
  refine (br_read w0 d r _ D D _ a _ HB3.out).mono ?_
  rintro e w4 ⟨rfl, hb4⟩
  have HB4 := Lib.hid hb4
  clear hb4
  have k4_1 := watch_cell HB4.out 1
  have k4_3 := watch_cell HB4.out 3
  have k4_4 := watch_cell HB4.out 4
  simp at k4_1 k4_3 k4_4
  go_wp2_with fail
  refine (bd_part w0 d r _ D D _ a _ HB4.out ham n m hn1 hn2 hm1 hm2).mono ?_
  rintro e w5 ⟨rfl, hb5⟩
  have HB5 := Lib.hid hb5
  clear hb5
  have k5_1 := watch_cell HB5.out 1
  have k5_3 := watch_cell HB5.out 3
  have k5_4 := watch_cell HB5.out 4
  simp at k5_1 k5_3 k5_4
  go_wp2_with fail
  refine (br_part w0 d r _ D D _ a _ HB5.out n m hn1 hn2 hm1 hm2).mono ?_
  rintro e w6 ⟨rfl, hb6⟩
  have HB6 := Lib.hid hb6
  clear hb6
  have k6_1 := watch_cell HB6.out 1
  have k6_3 := watch_cell HB6.out 3
  have k6_4 := watch_cell HB6.out 4
  simp at k6_1 k6_3 k6_4
  generalize (readD D a).1 = x1 at *
  generalize (readD D a).2 = x2 at *
  generalize (partD D a n m).1 = x3 at *
  generalize (partD D a n m).2 = x4 at *
  have e1 : (x1.toList == x1.toList) = true := by simp
  have e3 : (x3.toList == x3.toList) = true := by simp
  go_wp2_with fail
  go_ret
  refine ⟨?_, _, HBS.out.up, HB6.out.drop⟩
  simp

set_option maxRecDepth 100000 in
set_option maxHeartbeats 4000000 in
theorem ld_act_crashn (w0 : World) (d r : Nat) (D : DiskV) (N : Nat) (hN : N ≤ 999) (Do : Int) (a b : ByteArray) (n m : Int) (bv : Value) (l : List Int) (ha : a.size ≤ 140737488355328) (hb : b.size ≤ 140737488355328) (hn : In64 n) (hm : In64 m) (hl : l.length ≤ 17592186044416)
    (hDo : Do.tmod 12 = -5) (hbs : BSm N D) (w : World) (h : Both w0 w d r (fun _ _ => False) D D (fun _ => False)) (hr : RInts w bv l) :
    Calls Tryz.prog 21 #[.pointer (some ⟨d, 0, none⟩), .pointer (some ⟨r, 0, none⟩), .agg #[.int .i64 Do, .string a, .string b, .int .i64 n, .int .i64 m, bv]] w (ActPost w0 d r N) := by
  obtain ⟨i0, hi0, hz0, hz1, hz2⟩ := info_parts info_int
  have hl2 := hr
  obtain ⟨ba, bc, rfl, _, hlb, _⟩ := hr
  have ham : a.size ≤ maxLen := Nat.le_trans ha (by decide)
  have hbm : b.size ≤ maxLen := Nat.le_trans hb (by decide)
  obtain ⟨hn1, hn2⟩ := hn
  obtain ⟨hm1, hm2⟩ := hm
  obtain ⟨W1, hW1⟩ : ∃ W1, W1 = w.alloc (.cells #[.int .i64 Do, .string a, .string b, .int .i64 n, .int .i64 m, .slice ba l.length bc] 35) := ⟨_, rfl⟩
  have hc1 : Chg (fun _ => False) w W1 := by rw [hW1]; ((repeat (first | exact Chg.refl _ _ | assumption | refine Chg.drewN ?_ _ | refine Chg.drew ?_ | refine Chg.alloc ?_ _ | refine Chg.setCell ?_ (by first | (simp; done) | (simp; omega) | (intro h; simp at h; omega)) _)))
  have hb1 : Blk W1 w.heap.size 35 #[.int .i64 Do, .string a, .string b, .int .i64 n, .int .i64 m, .slice ba l.length bc] := by rw [hW1]; exact Blk.new w _ _
  have hs1 : w.heap.size < W1.heap.size := hb1.lt
  have hs1e : W1.heap.size = w.heap.size + 1 := by rw [hW1]; simp
  have hsrc := fun W (hW : Chg (fun _ => False) w W) => rints_src (w := W) (l := l) (v := .slice ba l.length bc) (hl2.keep hW)
  have HSR := Lib.hid hsrc
  have HW1 := Lib.hid hW1
  have HC1 := Lib.hid hc1
  have HB1 := Lib.hid hb1
  have H := Lib.hid h
  have HBS := Lib.hid hbs
  have HLB := Lib.hid hlb
  have HS1 := Lib.hid hs1e
  have hb10 := hb1.cell 5
  simp at hb10
  clear hsrc hW1 hc1 hb1 h hbs hlb hl2 hs1e
  go_enter Tryz.func21, Tryz.ntmps21
  go_wp2_with (at_builtin; rw [← HW1.out]; refine wpList_own_append _ (by rfl) _ _ _ _ (by rfl) 3 i0 (.int .i64 0) 1 8 Tryz.underlying33 hi0 hz0 hz1 hz2 rfl (.slice none 0 0) 0 [] (by rfl) (Own.nil _ _ _) _ l.length (intCells l) (by rfl) (HSR.out _ HC1.out) (by unfold maxLen; omega) (by omega) ?_)
  intro v' w2 hown hgr hvb
  have hown2 : Own w2 3 1 v' l.length (intCells l) := by simpa using hown
  obtain ⟨va, vc, rfl, _, _, _⟩ := hown2.reads
  have hc2 : Chg (fun _ => False) W1 w2 := (Chg.refl _ _).grown hgr (fun k e _ => by simp [Value.ownBlock] at e)
  have hge : ∀ k, (Value.slice va l.length vc).ownBlock = some k → W1.heap.size ≤ k := fun k hk => by
    rcases hvb with e | e
    · rw [e] at hk; simp [Value.ownBlock] at hk
    · rw [e] at hk; injection hk with hk; omega
  have hb2 := HB1.out.chg hc2 (by simp)
  have hkeep : Both w0 w2 d r (Watch w.heap.size #[.int .i64 Do, .string a, .string b, .int .i64 n, .int .i64 m, .slice ba l.length bc]) D D (fun k => (Value.slice va l.length vc).ownBlock = some k) := H.out.keep (HC1.out.then hc2) (fun k hk => ⟨by have := hge k hk; omega, hown2.lt hk⟩) (fun k o hk => by
    obtain ⟨rfl, rfl⟩ := hk
    exact ⟨Nat.le_refl _, hb2, fun e => by have := hge _ e; omega⟩)
  have HB := Lib.hid hkeep
  have HO := Lib.hid hown2
  have hgl := hb2.lt
  have y1 := hb2.cell 1
  have y2 := hb2.cell 2
  have y3 := hb2.cell 3
  have y4 := hb2.cell 4
  simp at y1 y2 y3 y4
  clear hown hown2 hgr hvb hc2 hge hb2 hkeep HSR HW1 HC1 HB1 H HS1 hb10
  generalize w.heap.size = g at *
  go_wp2_with fail
  refine (bd_crash w0 d r _ D D N l _ m _ HB.out hm1 hm2 HLB.out HO.out HBS.out (by omega)).mono ?_
  rintro e w3 ⟨rfl, hb3, ho3⟩
  have HB3 := Lib.hid hb3
  have HO3 := Lib.hid ho3
  clear ho3
  clear hb3
  have k3_4 := watch_cell HB3.out 4
  simp at k3_4
  go_wp2_with fail
  refine (br_fail w0 d r _ (crashD D m l) D N l _ m _ HB3.out hm1 hm2 HLB.out HO3.out HBS.out (by omega)).mono ?_
  rintro e w4 ⟨rfl, hb4⟩
  have HB4 := Lib.hid hb4
  clear hb4
  have k4_4 := watch_cell HB4.out 4
  simp at k4_4
  obtain ⟨c5, f5, hoff⟩ := HB4.out.roff
  have HOFF := Lib.hid hoff
  clear hoff
  go_wp2_with fail
  go_ret
  exact ⟨rfl, _, bsm_crash HBS.out m l, HOFF.out.drop⟩

set_option maxRecDepth 100000 in
set_option maxHeartbeats 4000000 in
theorem ld_act_cutn (w0 : World) (d r : Nat) (D : DiskV) (N : Nat) (hN : N ≤ 999) (Do : Int) (a b : ByteArray) (n m : Int) (bv : Value) (l : List Int) (ha : a.size ≤ 140737488355328) (hb : b.size ≤ 140737488355328) (hn : In64 n) (hm : In64 m) (hl : l.length ≤ 17592186044416)
    (hDo : Do.tmod 12 = -4) (hbs : BSm N D) (w : World) (h : Both w0 w d r (fun _ _ => False) D D (fun _ => False)) (hr : RInts w bv l) :
    Calls Tryz.prog 21 #[.pointer (some ⟨d, 0, none⟩), .pointer (some ⟨r, 0, none⟩), .agg #[.int .i64 Do, .string a, .string b, .int .i64 n, .int .i64 m, bv]] w (ActPost w0 d r N) := by
  obtain ⟨i0, hi0, hz0, hz1, hz2⟩ := info_parts info_int
  have hl2 := hr
  obtain ⟨ba, bc, rfl, _, hlb, _⟩ := hr
  have ham : a.size ≤ maxLen := Nat.le_trans ha (by decide)
  have hbm : b.size ≤ maxLen := Nat.le_trans hb (by decide)
  obtain ⟨hn1, hn2⟩ := hn
  obtain ⟨hm1, hm2⟩ := hm
  obtain ⟨W1, hW1⟩ : ∃ W1, W1 = w.alloc (.cells #[.int .i64 Do, .string a, .string b, .int .i64 n, .int .i64 m, .slice ba l.length bc] 35) := ⟨_, rfl⟩
  have hc1 : Chg (fun _ => False) w W1 := by rw [hW1]; ((repeat (first | exact Chg.refl _ _ | assumption | refine Chg.drewN ?_ _ | refine Chg.drew ?_ | refine Chg.alloc ?_ _ | refine Chg.setCell ?_ (by first | (simp; done) | (simp; omega) | (intro h; simp at h; omega)) _)))
  have hb1 : Blk W1 w.heap.size 35 #[.int .i64 Do, .string a, .string b, .int .i64 n, .int .i64 m, .slice ba l.length bc] := by rw [hW1]; exact Blk.new w _ _
  have hs1 : w.heap.size < W1.heap.size := hb1.lt
  have hs1e : W1.heap.size = w.heap.size + 1 := by rw [hW1]; simp
  have hsrc := fun W (hW : Chg (fun _ => False) w W) => rints_src (w := W) (l := l) (v := .slice ba l.length bc) (hl2.keep hW)
  have HSR := Lib.hid hsrc
  have HW1 := Lib.hid hW1
  have HC1 := Lib.hid hc1
  have HB1 := Lib.hid hb1
  have H := Lib.hid h
  have HBS := Lib.hid hbs
  have HLB := Lib.hid hlb
  have HS1 := Lib.hid hs1e
  have hb10 := hb1.cell 5
  simp at hb10
  clear hsrc hW1 hc1 hb1 h hbs hlb hl2 hs1e
  go_enter Tryz.func21, Tryz.ntmps21
  go_wp2_with (at_builtin; rw [← HW1.out]; refine wpList_own_append _ (by rfl) _ _ _ _ (by rfl) 3 i0 (.int .i64 0) 1 8 Tryz.underlying33 hi0 hz0 hz1 hz2 rfl (.slice none 0 0) 0 [] (by rfl) (Own.nil _ _ _) _ l.length (intCells l) (by rfl) (HSR.out _ HC1.out) (by unfold maxLen; omega) (by omega) ?_)
  intro v' w2 hown hgr hvb
  have hown2 : Own w2 3 1 v' l.length (intCells l) := by simpa using hown
  obtain ⟨va, vc, rfl, _, _, _⟩ := hown2.reads
  have hc2 : Chg (fun _ => False) W1 w2 := (Chg.refl _ _).grown hgr (fun k e _ => by simp [Value.ownBlock] at e)
  have hge : ∀ k, (Value.slice va l.length vc).ownBlock = some k → W1.heap.size ≤ k := fun k hk => by
    rcases hvb with e | e
    · rw [e] at hk; simp [Value.ownBlock] at hk
    · rw [e] at hk; injection hk with hk; omega
  have hb2 := HB1.out.chg hc2 (by simp)
  have hkeep : Both w0 w2 d r (Watch w.heap.size #[.int .i64 Do, .string a, .string b, .int .i64 n, .int .i64 m, .slice ba l.length bc]) D D (fun k => (Value.slice va l.length vc).ownBlock = some k) := H.out.keep (HC1.out.then hc2) (fun k hk => ⟨by have := hge k hk; omega, hown2.lt hk⟩) (fun k o hk => by
    obtain ⟨rfl, rfl⟩ := hk
    exact ⟨Nat.le_refl _, hb2, fun e => by have := hge _ e; omega⟩)
  have HB := Lib.hid hkeep
  have HO := Lib.hid hown2
  have hgl := hb2.lt
  have y1 := hb2.cell 1
  have y2 := hb2.cell 2
  have y3 := hb2.cell 3
  have y4 := hb2.cell 4
  simp at y1 y2 y3 y4
  clear hown hown2 hgr hvb hc2 hge hb2 hkeep HSR HW1 HC1 HB1 H HS1 hb10
  generalize w.heap.size = g at *
  go_wp2_with fail
  refine (bd_cut w0 d r _ D D l _ m n _ HB.out hm1 hm2 hn2 HLB.out HO.out hl).mono ?_
  rintro e w3 ⟨rfl, hb3, ho3⟩
  have HB3 := Lib.hid hb3
  have HO3 := Lib.hid ho3
  clear ho3
  clear hb3
  have k3_3 := watch_cell HB3.out 3
  have k3_4 := watch_cell HB3.out 4
  simp at k3_3 k3_4
  go_wp2_with fail
  refine (br_cut w0 d r _ (cutD D n m l) D l _ m n _ HB3.out hm1 hm2 hn2 HLB.out HO3.out).mono ?_
  rintro e w4 ⟨rfl, hb4⟩
  have HB4 := Lib.hid hb4
  clear hb4
  have k4_3 := watch_cell HB4.out 3
  have k4_4 := watch_cell HB4.out 4
  simp at k4_3 k4_4
  go_wp2_with fail
  go_ret
  exact ⟨rfl, _, bsm_cut HBS.out n m l, HB4.out.drop⟩

set_option maxRecDepth 100000 in
set_option maxHeartbeats 4000000 in
theorem ld_act_breakn (w0 : World) (d r : Nat) (D : DiskV) (N : Nat) (hN : N ≤ 999) (Do : Int) (a b : ByteArray) (n m : Int) (bv : Value) (l : List Int) (ha : a.size ≤ 140737488355328) (hb : b.size ≤ 140737488355328) (hn : In64 n) (hm : In64 m) (hl : l.length ≤ 17592186044416)
    (hDo : Do.tmod 12 = -3) (hbs : BSm N D) (w : World) (h : Both w0 w d r (fun _ _ => False) D D (fun _ => False)) (hr : RInts w bv l) :
    Calls Tryz.prog 21 #[.pointer (some ⟨d, 0, none⟩), .pointer (some ⟨r, 0, none⟩), .agg #[.int .i64 Do, .string a, .string b, .int .i64 n, .int .i64 m, bv]] w (ActPost w0 d r N) := by
  obtain ⟨i0, hi0, hz0, hz1, hz2⟩ := info_parts info_int
  have hl2 := hr
  obtain ⟨ba, bc, rfl, _, hlb, _⟩ := hr
  have ham : a.size ≤ maxLen := Nat.le_trans ha (by decide)
  have hbm : b.size ≤ maxLen := Nat.le_trans hb (by decide)
  obtain ⟨hn1, hn2⟩ := hn
  obtain ⟨hm1, hm2⟩ := hm
  obtain ⟨W1, hW1⟩ : ∃ W1, W1 = w.alloc (.cells #[.int .i64 Do, .string a, .string b, .int .i64 n, .int .i64 m, .slice ba l.length bc] 35) := ⟨_, rfl⟩
  have hc1 : Chg (fun _ => False) w W1 := by rw [hW1]; ((repeat (first | exact Chg.refl _ _ | assumption | refine Chg.drewN ?_ _ | refine Chg.drew ?_ | refine Chg.alloc ?_ _ | refine Chg.setCell ?_ (by first | (simp; done) | (simp; omega) | (intro h; simp at h; omega)) _)))
  have hb1 : Blk W1 w.heap.size 35 #[.int .i64 Do, .string a, .string b, .int .i64 n, .int .i64 m, .slice ba l.length bc] := by rw [hW1]; exact Blk.new w _ _
  have hs1 : w.heap.size < W1.heap.size := hb1.lt
  have hs1e : W1.heap.size = w.heap.size + 1 := by rw [hW1]; simp
  have hsrc := fun W (hW : Chg (fun _ => False) w W) => rints_src (w := W) (l := l) (v := .slice ba l.length bc) (hl2.keep hW)
  have HSR := Lib.hid hsrc
  have HW1 := Lib.hid hW1
  have HC1 := Lib.hid hc1
  have HB1 := Lib.hid hb1
  have H := Lib.hid h
  have HBS := Lib.hid hbs
  have HLB := Lib.hid hlb
  have HS1 := Lib.hid hs1e
  have hb10 := hb1.cell 5
  simp at hb10
  clear hsrc hW1 hc1 hb1 h hbs hlb hl2 hs1e
  go_enter Tryz.func21, Tryz.ntmps21
  go_wp2_with (at_builtin; rw [← HW1.out]; refine wpList_own_append _ (by rfl) _ _ _ _ (by rfl) 3 i0 (.int .i64 0) 1 8 Tryz.underlying33 hi0 hz0 hz1 hz2 rfl (.slice none 0 0) 0 [] (by rfl) (Own.nil _ _ _) _ l.length (intCells l) (by rfl) (HSR.out _ HC1.out) (by unfold maxLen; omega) (by omega) ?_)
  intro v' w2 hown hgr hvb
  have hown2 : Own w2 3 1 v' l.length (intCells l) := by simpa using hown
  obtain ⟨va, vc, rfl, _, _, _⟩ := hown2.reads
  have hc2 : Chg (fun _ => False) W1 w2 := (Chg.refl _ _).grown hgr (fun k e _ => by simp [Value.ownBlock] at e)
  have hge : ∀ k, (Value.slice va l.length vc).ownBlock = some k → W1.heap.size ≤ k := fun k hk => by
    rcases hvb with e | e
    · rw [e] at hk; simp [Value.ownBlock] at hk
    · rw [e] at hk; injection hk with hk; omega
  have hb2 := HB1.out.chg hc2 (by simp)
  have hkeep : Both w0 w2 d r (Watch w.heap.size #[.int .i64 Do, .string a, .string b, .int .i64 n, .int .i64 m, .slice ba l.length bc]) D D (fun k => (Value.slice va l.length vc).ownBlock = some k) := H.out.keep (HC1.out.then hc2) (fun k hk => ⟨by have := hge k hk; omega, hown2.lt hk⟩) (fun k o hk => by
    obtain ⟨rfl, rfl⟩ := hk
    exact ⟨Nat.le_refl _, hb2, fun e => by have := hge _ e; omega⟩)
  have HB := Lib.hid hkeep
  have HO := Lib.hid hown2
  have hgl := hb2.lt
  have y1 := hb2.cell 1
  have y2 := hb2.cell 2
  have y3 := hb2.cell 3
  have y4 := hb2.cell 4
  simp at y1 y2 y3 y4
  clear hown hown2 hgr hvb hc2 hge hb2 hkeep HSR HW1 HC1 HB1 H HS1 hb10
  generalize w.heap.size = g at *
  go_wp2_with fail
  refine (bd_break w0 d r _ D D _ _ HB.out n hn2).mono ?_
  rintro e w3 ⟨rfl, hb3⟩
  have HB3 := Lib.hid hb3
  clear hb3
  have k3_3 := watch_cell HB3.out 3
  simp at k3_3
  go_wp2_with fail
  refine (br_break w0 d r _ (breakD D n) D _ _ HB3.out n hn2).mono ?_
  rintro e w4 ⟨rfl, hb4⟩
  have HB4 := Lib.hid hb4
  clear hb4
  have k4_3 := watch_cell HB4.out 3
  simp at k4_3
  go_wp2_with fail
  go_ret
  exact ⟨rfl, _, bsm_break HBS.out n, HB4.out.drop⟩

set_option maxRecDepth 100000 in
set_option maxHeartbeats 4000000 in
theorem ld_act_onn (w0 : World) (d r : Nat) (D : DiskV) (N : Nat) (hN : N ≤ 999) (Do : Int) (a b : ByteArray) (n m : Int) (bv : Value) (l : List Int) (ha : a.size ≤ 140737488355328) (hb : b.size ≤ 140737488355328) (hn : In64 n) (hm : In64 m) (hl : l.length ≤ 17592186044416)
    (hDo : Do.tmod 12 = -2) (hbs : BSm N D) (w : World) (h : Both w0 w d r (fun _ _ => False) D D (fun _ => False)) (hr : RInts w bv l) :
    Calls Tryz.prog 21 #[.pointer (some ⟨d, 0, none⟩), .pointer (some ⟨r, 0, none⟩), .agg #[.int .i64 Do, .string a, .string b, .int .i64 n, .int .i64 m, bv]] w (ActPost w0 d r N) := by
  obtain ⟨i0, hi0, hz0, hz1, hz2⟩ := info_parts info_int
  have hl2 := hr
  obtain ⟨ba, bc, rfl, _, hlb, _⟩ := hr
  have ham : a.size ≤ maxLen := Nat.le_trans ha (by decide)
  have hbm : b.size ≤ maxLen := Nat.le_trans hb (by decide)
  obtain ⟨hn1, hn2⟩ := hn
  obtain ⟨hm1, hm2⟩ := hm
  obtain ⟨W1, hW1⟩ : ∃ W1, W1 = w.alloc (.cells #[.int .i64 Do, .string a, .string b, .int .i64 n, .int .i64 m, .slice ba l.length bc] 35) := ⟨_, rfl⟩
  have hc1 : Chg (fun _ => False) w W1 := by rw [hW1]; ((repeat (first | exact Chg.refl _ _ | assumption | refine Chg.drewN ?_ _ | refine Chg.drew ?_ | refine Chg.alloc ?_ _ | refine Chg.setCell ?_ (by first | (simp; done) | (simp; omega) | (intro h; simp at h; omega)) _)))
  have hb1 : Blk W1 w.heap.size 35 #[.int .i64 Do, .string a, .string b, .int .i64 n, .int .i64 m, .slice ba l.length bc] := by rw [hW1]; exact Blk.new w _ _
  have hs1 : w.heap.size < W1.heap.size := hb1.lt
  have hs1e : W1.heap.size = w.heap.size + 1 := by rw [hW1]; simp
  have hsrc := fun W (hW : Chg (fun _ => False) w W) => rints_src (w := W) (l := l) (v := .slice ba l.length bc) (hl2.keep hW)
  have HSR := Lib.hid hsrc
  have HW1 := Lib.hid hW1
  have HC1 := Lib.hid hc1
  have HB1 := Lib.hid hb1
  have H := Lib.hid h
  have HBS := Lib.hid hbs
  have HLB := Lib.hid hlb
  have HS1 := Lib.hid hs1e
  have hb10 := hb1.cell 5
  simp at hb10
  clear hsrc hW1 hc1 hb1 h hbs hlb hl2 hs1e
  go_enter Tryz.func21, Tryz.ntmps21
  go_wp2_with (at_builtin; rw [← HW1.out]; refine wpList_own_append _ (by rfl) _ _ _ _ (by rfl) 3 i0 (.int .i64 0) 1 8 Tryz.underlying33 hi0 hz0 hz1 hz2 rfl (.slice none 0 0) 0 [] (by rfl) (Own.nil _ _ _) _ l.length (intCells l) (by rfl) (HSR.out _ HC1.out) (by unfold maxLen; omega) (by omega) ?_)
  intro v' w2 hown hgr hvb
  have hown2 : Own w2 3 1 v' l.length (intCells l) := by simpa using hown
  obtain ⟨va, vc, rfl, _, _, _⟩ := hown2.reads
  have hc2 : Chg (fun _ => False) W1 w2 := (Chg.refl _ _).grown hgr (fun k e _ => by simp [Value.ownBlock] at e)
  have hge : ∀ k, (Value.slice va l.length vc).ownBlock = some k → W1.heap.size ≤ k := fun k hk => by
    rcases hvb with e | e
    · rw [e] at hk; simp [Value.ownBlock] at hk
    · rw [e] at hk; injection hk with hk; omega
  have hb2 := HB1.out.chg hc2 (by simp)
  have hkeep : Both w0 w2 d r (Watch w.heap.size #[.int .i64 Do, .string a, .string b, .int .i64 n, .int .i64 m, .slice ba l.length bc]) D D (fun k => (Value.slice va l.length vc).ownBlock = some k) := H.out.keep (HC1.out.then hc2) (fun k hk => ⟨by have := hge k hk; omega, hown2.lt hk⟩) (fun k o hk => by
    obtain ⟨rfl, rfl⟩ := hk
    exact ⟨Nat.le_refl _, hb2, fun e => by have := hge _ e; omega⟩)
  have HB := Lib.hid hkeep
  have HO := Lib.hid hown2
  have hgl := hb2.lt
  have y1 := hb2.cell 1
  have y2 := hb2.cell 2
  have y3 := hb2.cell 3
  have y4 := hb2.cell 4
  simp at y1 y2 y3 y4
  clear hown hown2 hgr hvb hc2 hge hb2 hkeep HSR HW1 HC1 HB1 H HS1 hb10
  generalize w.heap.size = g at *
  go_wp2_with fail
  refine (bd_on w0 d r _ D D _ _ HB.out).mono ?_
  rintro e w3 ⟨rfl, hb3⟩
  have HB3 := Lib.hid hb3
  clear hb3
  obtain ⟨⟨o1, o2, o3, c5, c6, c9⟩, ⟨f5, f6, f9⟩, hon⟩ := HB3.out.ron
  have HON := Lib.hid hon
  clear hon
  go_wp2_with fail
  go_ret
  exact ⟨rfl, _, bsm_on HBS.out, HON.out.drop⟩

set_option maxRecDepth 100000 in
set_option maxHeartbeats 4000000 in
theorem ld_act_spoiln (w0 : World) (d r : Nat) (D : DiskV) (N : Nat) (hN : N ≤ 999) (Do : Int) (a b : ByteArray) (n m : Int) (bv : Value) (l : List Int) (ha : a.size ≤ 140737488355328) (hb : b.size ≤ 140737488355328) (hn : In64 n) (hm : In64 m) (hl : l.length ≤ 17592186044416)
    (hDo : Do.tmod 12 = -1) (hbs : BSm N D) (w : World) (h : Both w0 w d r (fun _ _ => False) D D (fun _ => False)) (hr : RInts w bv l) :
    Calls Tryz.prog 21 #[.pointer (some ⟨d, 0, none⟩), .pointer (some ⟨r, 0, none⟩), .agg #[.int .i64 Do, .string a, .string b, .int .i64 n, .int .i64 m, bv]] w (ActPost w0 d r N) := by
  obtain ⟨i0, hi0, hz0, hz1, hz2⟩ := info_parts info_int
  have hl2 := hr
  obtain ⟨ba, bc, rfl, _, hlb, _⟩ := hr
  have ham : a.size ≤ maxLen := Nat.le_trans ha (by decide)
  have hbm : b.size ≤ maxLen := Nat.le_trans hb (by decide)
  obtain ⟨hn1, hn2⟩ := hn
  obtain ⟨hm1, hm2⟩ := hm
  obtain ⟨W1, hW1⟩ : ∃ W1, W1 = w.alloc (.cells #[.int .i64 Do, .string a, .string b, .int .i64 n, .int .i64 m, .slice ba l.length bc] 35) := ⟨_, rfl⟩
  have hc1 : Chg (fun _ => False) w W1 := by rw [hW1]; ((repeat (first | exact Chg.refl _ _ | assumption | refine Chg.drewN ?_ _ | refine Chg.drew ?_ | refine Chg.alloc ?_ _ | refine Chg.setCell ?_ (by first | (simp; done) | (simp; omega) | (intro h; simp at h; omega)) _)))
  have hb1 : Blk W1 w.heap.size 35 #[.int .i64 Do, .string a, .string b, .int .i64 n, .int .i64 m, .slice ba l.length bc] := by rw [hW1]; exact Blk.new w _ _
  have hs1 : w.heap.size < W1.heap.size := hb1.lt
  have hs1e : W1.heap.size = w.heap.size + 1 := by rw [hW1]; simp
  have hsrc := fun W (hW : Chg (fun _ => False) w W) => rints_src (w := W) (l := l) (v := .slice ba l.length bc) (hl2.keep hW)
  have HSR := Lib.hid hsrc
  have HW1 := Lib.hid hW1
  have HC1 := Lib.hid hc1
  have HB1 := Lib.hid hb1
  have H := Lib.hid h
  have HBS := Lib.hid hbs
  have HLB := Lib.hid hlb
  have HS1 := Lib.hid hs1e
  have hb10 := hb1.cell 5
  simp at hb10
  clear hsrc hW1 hc1 hb1 h hbs hlb hl2 hs1e
  go_enter Tryz.func21, Tryz.ntmps21
  go_wp2_with (at_builtin; rw [← HW1.out]; refine wpList_own_append _ (by rfl) _ _ _ _ (by rfl) 3 i0 (.int .i64 0) 1 8 Tryz.underlying33 hi0 hz0 hz1 hz2 rfl (.slice none 0 0) 0 [] (by rfl) (Own.nil _ _ _) _ l.length (intCells l) (by rfl) (HSR.out _ HC1.out) (by unfold maxLen; omega) (by omega) ?_)
  intro v' w2 hown hgr hvb
  have hown2 : Own w2 3 1 v' l.length (intCells l) := by simpa using hown
  obtain ⟨va, vc, rfl, _, _, _⟩ := hown2.reads
  have hc2 : Chg (fun _ => False) W1 w2 := (Chg.refl _ _).grown hgr (fun k e _ => by simp [Value.ownBlock] at e)
  have hge : ∀ k, (Value.slice va l.length vc).ownBlock = some k → W1.heap.size ≤ k := fun k hk => by
    rcases hvb with e | e
    · rw [e] at hk; simp [Value.ownBlock] at hk
    · rw [e] at hk; injection hk with hk; omega
  have hb2 := HB1.out.chg hc2 (by simp)
  have hkeep : Both w0 w2 d r (Watch w.heap.size #[.int .i64 Do, .string a, .string b, .int .i64 n, .int .i64 m, .slice ba l.length bc]) D D (fun k => (Value.slice va l.length vc).ownBlock = some k) := H.out.keep (HC1.out.then hc2) (fun k hk => ⟨by have := hge k hk; omega, hown2.lt hk⟩) (fun k o hk => by
    obtain ⟨rfl, rfl⟩ := hk
    exact ⟨Nat.le_refl _, hb2, fun e => by have := hge _ e; omega⟩)
  have HB := Lib.hid hkeep
  have HO := Lib.hid hown2
  have hgl := hb2.lt
  have y1 := hb2.cell 1
  have y2 := hb2.cell 2
  have y3 := hb2.cell 3
  have y4 := hb2.cell 4
  simp at y1 y2 y3 y4
  clear hown hown2 hgr hvb hc2 hge hb2 hkeep HSR HW1 HC1 HB1 H HS1 hb10
  generalize w.heap.size = g at *
  go_wp2_with fail
  refine (bd_spoil w0 d r _ D D _ a _ HB.out ham n hn1 hn2).mono ?_
  rintro e w3 ⟨rfl, hb3⟩
  have HB3 := Lib.hid hb3
  clear hb3
  have k3_1 := watch_cell HB3.out 1
  have k3_3 := watch_cell HB3.out 3
  simp at k3_1 k3_3
  go_wp2_with fail
  refine (br_spoil w0 d r _ (spoilD D a n) D _ a _ HB3.out n hn1 hn2).mono ?_
  rintro e w4 ⟨rfl, hb4⟩
  have HB4 := Lib.hid hb4
  clear hb4
  have k4_1 := watch_cell HB4.out 1
  have k4_3 := watch_cell HB4.out 3
  simp at k4_1 k4_3
  go_wp2_with fail
  go_ret
  exact ⟨rfl, _, bsm_spoil a HBS.out n, HB4.out.drop⟩

theorem ld_act (w0 : World) (d r : Nat) (D : DiskV) (N : Nat) (hN : N ≤ 999) (Do : Int) (a b : ByteArray) (n m : Int) (bv : Value) (l : List Int) (ha : a.size ≤ 140737488355328) (hb : b.size ≤ 140737488355328) (hn : In64 n) (hm : In64 m) (hl : l.length ≤ 17592186044416)
    (hbs : BSm N D) (w : World) (h : Both w0 w d r (fun _ _ => False) D D (fun _ => False)) (hr : RInts w bv l) :
    Calls Tryz.prog 21 #[.pointer (some ⟨d, 0, none⟩), .pointer (some ⟨r, 0, none⟩), .agg #[.int .i64 Do, .string a, .string b, .int .i64 n, .int .i64 m, bv]] w (ActPost w0 d r N) := by
  have hr1 := Int.tmod_lt_of_pos Do (show (0 : Int) < 12 by decide)
  have hr2 : -12 < Do.tmod 12 := by
    rcases Int.le_total 0 Do with e | e
    · have := Int.tmod_nonneg 12 e; omega
    · have h1 := Int.neg_tmod (a := Do) (b := 12)
      have h2 := Int.tmod_lt_of_pos (-Do) (show (0 : Int) < 12 by decide)
      omega
  by_cases e0 : Do.tmod 12 = 0
  · exact ld_act_createp w0 d r D N hN Do a b n m bv l ha hb hn hm hl e0 hbs w h hr
  by_cases e1 : Do.tmod 12 = 1
  · exact ld_act_appendp w0 d r D N hN Do a b n m bv l ha hb hn hm hl e1 hbs w h hr
  by_cases e2 : Do.tmod 12 = 2
  · exact ld_act_syncp w0 d r D N hN Do a b n m bv l ha hb hn hm hl e2 hbs w h hr
  by_cases e3 : Do.tmod 12 = 3
  · exact ld_act_syncdirp w0 d r D N hN Do a b n m bv l ha hb hn hm hl e3 hbs w h hr
  by_cases e4 : Do.tmod 12 = 4
  · exact ld_act_renamep w0 d r D N hN Do a b n m bv l ha hb hn hm hl e4 hbs w h hr
  by_cases e5 : Do.tmod 12 = 5
  · exact ld_act_removep w0 d r D N hN Do a b n m bv l ha hb hn hm hl e5 hbs w h hr
  by_cases e6 : Do.tmod 12 = 6
  · exact ld_act_readp w0 d r D N hN Do a b n m bv l ha hb hn hm hl e6 hbs w h hr
  by_cases e7 : Do.tmod 12 = 7
  · exact ld_act_crashp w0 d r D N hN Do a b n m bv l ha hb hn hm hl e7 hbs w h hr
  by_cases e8 : Do.tmod 12 = 8
  · exact ld_act_cutp w0 d r D N hN Do a b n m bv l ha hb hn hm hl e8 hbs w h hr
  by_cases e9 : Do.tmod 12 = 9
  · exact ld_act_breakp w0 d r D N hN Do a b n m bv l ha hb hn hm hl e9 hbs w h hr
  by_cases e10 : Do.tmod 12 = 10
  · exact ld_act_onp w0 d r D N hN Do a b n m bv l ha hb hn hm hl e10 hbs w h hr
  by_cases e11 : Do.tmod 12 = 11
  · exact ld_act_spoilp w0 d r D N hN Do a b n m bv l ha hb hn hm hl e11 hbs w h hr
  by_cases f1 : Do.tmod 12 = -11
  · exact ld_act_appendn w0 d r D N hN Do a b n m bv l ha hb hn hm hl f1 hbs w h hr
  by_cases f2 : Do.tmod 12 = -10
  · exact ld_act_syncn w0 d r D N hN Do a b n m bv l ha hb hn hm hl f2 hbs w h hr
  by_cases f3 : Do.tmod 12 = -9
  · exact ld_act_syncdirn w0 d r D N hN Do a b n m bv l ha hb hn hm hl f3 hbs w h hr
  by_cases f4 : Do.tmod 12 = -8
  · exact ld_act_renamen w0 d r D N hN Do a b n m bv l ha hb hn hm hl f4 hbs w h hr
  by_cases f5 : Do.tmod 12 = -7
  · exact ld_act_removen w0 d r D N hN Do a b n m bv l ha hb hn hm hl f5 hbs w h hr
  by_cases f6 : Do.tmod 12 = -6
  · exact ld_act_readn w0 d r D N hN Do a b n m bv l ha hb hn hm hl f6 hbs w h hr
  by_cases f7 : Do.tmod 12 = -5
  · exact ld_act_crashn w0 d r D N hN Do a b n m bv l ha hb hn hm hl f7 hbs w h hr
  by_cases f8 : Do.tmod 12 = -4
  · exact ld_act_cutn w0 d r D N hN Do a b n m bv l ha hb hn hm hl f8 hbs w h hr
  by_cases f9 : Do.tmod 12 = -3
  · exact ld_act_breakn w0 d r D N hN Do a b n m bv l ha hb hn hm hl f9 hbs w h hr
  by_cases f10 : Do.tmod 12 = -2
  · exact ld_act_onn w0 d r D N hN Do a b n m bv l ha hb hn hm hl f10 hbs w h hr
  by_cases f11 : Do.tmod 12 = -1
  · exact ld_act_spoiln w0 d r D N hN Do a b n m bv l ha hb hn hm hl f11 hbs w h hr
  exfalso
  omega
end Go.Proofs.YtjfbcjmnjlehaaaGreatDoor
