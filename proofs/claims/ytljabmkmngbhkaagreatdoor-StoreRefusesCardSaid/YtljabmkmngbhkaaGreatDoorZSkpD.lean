/-
  The search in a skip list: the walk of ahead.
-/
import Derived.Test.YtljabmkmngbhkaaGreatDoorZSkpC
import Derived.Deep.LoopGhost
import Derived.Deep.RegionHeld3
namespace Go.Proofs.YtljabmkmngbhkaaGreatDoor
open Go.RowKit
set_option linter.unusedVariables false
set_option linter.unusedSimpArgs false

/-- Where the search stands: at a tower, or at the head. -/
def atp (l : Nat) : Option NodeV → Value
  | none => .pointer (some ⟨l, 1, none⟩)
  | some n => .pointer (some ⟨n.b, 0, none⟩)
theorem atp_form (l : Nat) (a : Option NodeV) : ∃ b o, atp l a = .pointer (some ⟨b, o, none⟩) := by
  cases a with
  | none => exact ⟨l, 1, rfl⟩
  | some n => exact ⟨n.b, 0, rfl⟩
theorem SkipAt.at_ {w : World} {l hb : Nat} {cv : Value} {coins : List Int} {N : List NodeV} {size : Int} (h : SkipAt w l hb cv coins N size) {A R : List NodeV} (e : N = A ++ R) :
    ∃ ab ao lb hh, atp l A.getLast? = .pointer (some ⟨ab, ao, none⟩) ∧ w.cell? ⟨ab, ao + 5, none⟩ = some (.slice (some ⟨lb, 0, none⟩) hh hh) ∧ hh ≤ 8 ∧ ab < w.heap.size ∧ lb < w.heap.size ∧ ∀ f, (∀ n, A.getLast? = some n → f < n.h) → f < 8 → f < hh ∧ w.cell? ⟨lb, f, none⟩ = some (tptr (nextF R f)) := by
  rcases List.eq_nil_or_concat A with rfl | ⟨A', n, rfl⟩
  · obtain ⟨cs, h1, h2, h3⟩ := h.head
    refine ⟨l, 1, hb, 8, rfl, ?_, Nat.le_refl _, h.blk.lt, h1.lt, fun f _ hf => ⟨hf, ?_⟩⟩
    · rw [h.blk.cell]; rfl
    · rw [h1.cell, h3 f hf, e]; rfl
  · rw [List.concat_eq_append] at *
    have e2 : N = A' ++ n :: R := by rw [e]; simp
    obtain ⟨h1, cs, h2, h3, h4⟩ := h.nodes A' n R e2
    have hn : n ∈ N := by rw [e2]; simp
    have hl : (A' ++ [n]).getLast? = some n := by simp
    refine ⟨n.b, 0, n.nb, n.h, by rw [hl]; rfl, ?_, (h.fit n hn).2.2, Blk.lt h1, h2.lt, fun f hf _ => ⟨hf n hl, ?_⟩⟩
    · rw [Blk.cell h1]; rfl
    · rw [h2.cell, h4 f (hf n hl)]
theorem SkipAt.node {w : World} {l hb : Nat} {cv : Value} {coins : List Int} {N : List NodeV} {size : Int} (h : SkipAt w l hb cv coins N size) {m : NodeV} (hm : m ∈ N) : NodeAt w m := by
  obtain ⟨A, R, e⟩ := List.append_of_mem hm
  exact (h.nodes A m R e).1
theorem set_self {w : World} {g : Nat} {t : TypeId} {cs : Array Value} (h : Blk w g t cs) (i : Nat) (v : Value) (hv : cs[i]? = some v) : w.setCell ⟨g, i, none⟩ v = w := by
  have hcs : cs.setIfInBounds i v = cs := by
    apply Array.ext_getElem?
    intro k
    rw [Array.getElem?_setIfInBounds]
    by_cases hk : i = k
    · subst hk
      rw [if_pos rfl, hv]
      split
      · rfl
      · rename_i hn
        have := (Array.getElem?_eq_some_iff.1 hv).1
        exact absurd this hn
    · rw [if_neg hk]
  have hh : (w.setCell ⟨g, i, none⟩ v).heap = w.heap := by
    apply Array.ext_getElem?
    intro k
    by_cases hk : k = g
    · subst hk
      have := h.set_ i v
      unfold Blk at this h
      rw [this, h, hcs]
    · exact Below.heap_setCell w ⟨g, i, none⟩ v k hk
  have e : w.setCell ⟨g, i, none⟩ v = { w with heap := (w.setCell ⟨g, i, none⟩ v).heap } := rfl
  rw [e, hh]
def AheadPost (w : World) (l : Nat) (T : List NodeV) (r : Ending) (w' : World) : Prop := ∃ c : Nat → Option NodeV, r = .returned (.agg #[atp l (c 0), atp l (c 1), atp l (c 2), atp l (c 3), atp l (c 4), atp l (c 5), atp l (c 6), atp l (c 7)]) ∧ (∀ f, f < 8 → LastN T f (c f)) ∧ Chg (fun _ => False) w w'
theorem arr8 {cs : Array Value} (h : cs.size = 8) : ∃ c0 c1 c2 c3 c4 c5 c6 c7, cs = #[c0, c1, c2, c3, c4, c5, c6, c7] := by
  obtain ⟨l⟩ := cs
  simp at h
  match l, h with
  | [a, b, c, d, e, f, g, i], _ => exact ⟨a, b, c, d, e, f, g, i, rfl⟩
theorem ahead_next {l be f : Nat} {T A1 : List NodeV} {w2 wo wx : World} {cs : Array Value} (hk8 : f + 1 ≤ 8) (hl : LastN T f A1.getLast?) (hb : Blk wx (be + 1) 277 cs) (hc : Chg (fun _ => False) wo wx) (hcr : Chg (fun j => j = be + 1) w2 wo) (hcs : cs.size = 8)
    (hd : ∀ g, f + 1 ≤ g → g < 8 → ∃ a, LastN T g a ∧ cs[g]? = some (atp l a)) : ∃ k : Nat, f = k ∧ k ≤ 8 ∧ Value.int IntKind.i64 ((f : Int) - 1) = .int .i64 ((k : Int) - 1) ∧ ∃ A R, T = A ++ R ∧ atp l A1.getLast? = atp l A.getLast? ∧ (∀ n, A.getLast? = some n → k ≤ n.h) ∧ Chg (fun j => j = be + 1) w2 (wx.setCell ⟨be + 1, f, none⟩ (atp l A1.getLast?)) ∧
      ∃ cs, Blk (wx.setCell ⟨be + 1, f, none⟩ (atp l A1.getLast?)) (be + 1) 277 cs ∧ cs.size = 8 ∧ ∀ g, k ≤ g → g < 8 → ∃ a, LastN T g a ∧ cs[g]? = some (atp l a) := by
  obtain ⟨A, R, e, h1, h2, h3⟩ := hl
  refine ⟨f, rfl, by omega, rfl, A, R, e, by rw [h1], fun n hn => ?_, (hcr.trans hc fun k _ x => x.elim).setCell (fun _ => rfl) _, _, hb.set_ f _, by simpa using hcs, fun g hg hg8 => ?_⟩
  · have := h2 n (by rw [← h1]; exact hn); omega
  · rw [Array.getElem?_setIfInBounds]
    by_cases hgf : f = g
    · subst hgf
      rw [if_pos rfl, if_pos (by omega)]
      exact ⟨_, ⟨A, R, e, h1, h2, h3⟩, rfl⟩
    · rw [if_neg hgf]
      exact hd g (by omega) hg8
set_option maxRecDepth 100000 in
set_option maxHeartbeats 8000000 in
theorem sk_ahead (l hb : Nat) (cv : Value) (coins : List Int) (N : List NodeV) (size : Int) (e : EntryV) (w : World) (h : SkipAt w l hb cv coins N size) : Calls Tryz.prog 177 #[.pointer (some ⟨l, 0, none⟩), entA e] w (AheadPost w l (aheadN N e)) := by
  obtain ⟨be, hbe⟩ : ∃ be, w.heap.size = be := ⟨_, rfl⟩
  obtain ⟨w2, hw2⟩ : ∃ w2, w2 = (w.alloc (.cells #[.string e.key, .int .i64 e.seq, .bool e.gone, .string e.value, .int .i64 e.till] 41)).alloc (.cells #[.pointer none, .pointer none, .pointer none, .pointer none, .pointer none, .pointer none, .pointer none, .pointer none] 277) := ⟨_, rfl⟩
  have hb1 : Blk w2 be 41 #[.string e.key, .int .i64 e.seq, .bool e.gone, .string e.value, .int .i64 e.till] := by rw [hw2, ← hbe]; exact (Blk.new _ _ _).alloc _
  have hb2 : Blk w2 (be + 1) 277 #[.pointer none, .pointer none, .pointer none, .pointer none, .pointer none, .pointer none, .pointer none, .pointer none] := by rw [hw2, ← hbe]; exact Blk.new1 _ _ _ _
  have hc2 : Chg (fun _ => False) w w2 := by rw [hw2]; exact ((Chg.refl _ _).alloc _).alloc _
  have h2 := h.same hc2
  have hord := h.ord
  obtain ⟨T, hT⟩ : ∃ T, aheadN N e = T := ⟨_, rfl⟩
  obtain ⟨D, hD⟩ : ∃ D, behindN N e = D := ⟨_, rfl⟩
  have hN : N = T ++ D := by rw [← hT, ← hD]; exact split_N N e
  have hTl : ∀ m ∈ T, lessE m.e e = true := fun m hm => aheadN_less (by rw [hT]; exact hm)
  have hDl : ∀ m ∈ D, lessE m.e e = false := fun m hm => behindN_not hord (by rw [hD]; exact hm)
  rw [hT]
  have hlt : ∀ k, SkFoot l hb N k → k < be := fun k hk => by rw [← hbe]; exact h.lt k hk
  have hl2 := h2.blk.lt
  have hcl : ∀ k, coins.length ≠ 0 → cv.ownBlock = some k → k < be := fun k h0 hk => by rw [← hbe]; exact h.coin.lt h0 hk
  have HW2 := Lib.hid hw2
  have HB1 := Lib.hid hb1
  have HB2 := Lib.hid hb2
  have HC2 := Lib.hid hc2
  have H2 := Lib.hid h2
  have HN := Lib.hid hN
  have HTL := Lib.hid hTl
  have HDL := Lib.hid hDl
  have HLT := Lib.hid hlt
  have HBE := Lib.hid hbe
  have HCL := Lib.hid hcl
  clear hw2 hb1 hb2 hc2 h2 hN hTl hDl hlt hbe hcl
  clear h hord hT hD
  unfold entA
  go_enter Tryz.func177, Tryz.ntmps177
  go_upto_region 1 with fail
  rw [HBE.out]
  rw [← HW2.out]
  go_wp2_with fail
  go_loopg [5, 6] 8 (fun q at_ fl wr => ∃ k : Nat, q = k ∧ k ≤ 8 ∧ fl = .int .i64 ((k : Int) - 1) ∧ ∃ A R, T = A ++ R ∧ at_ = atp l A.getLast? ∧ (∀ n, A.getLast? = some n → k ≤ n.h) ∧ Chg (fun j => j = be + 1) w2 wr ∧ ∃ cs, Blk wr (be + 1) 277 cs ∧ cs.size = 8 ∧ ∀ f, k ≤ f → f < 8 → ∃ a, LastN T f a ∧ cs[f]? = some (atp l a))
  case atStart => exact ⟨8, rfl, by omega, rfl, [], T, rfl, rfl, by simp, Chg.refl _ _, _, HB2.out, rfl, fun f h1 h2 => by omega⟩
  case round =>
    obtain ⟨k, hqk, hk8, rfl, A, R, hAR, rfl, hAh, hcr, cs, hbo, hcs, hdone⟩ := hrel
    obtain ⟨wo, hwo⟩ : ∃ wo, wo = wr := ⟨_, rfl⟩
    rw [← hwo] at hcr hbo ⊢
    clear hwo
    have hkeep : ∀ k, SkFoot l hb N k → ¬ k = be + 1 := fun k hk => by have := HLT.out k hk; omega
    by_cases hk : k = 0
    · subst hk
      obtain ⟨c0, c1, c2, c3, c4, c5, c6, c7, rfl⟩ := arr8 hcs
      have g : ∀ f, f < 8 → ∃ a, LastN T f a ∧ (#[c0, c1, c2, c3, c4, c5, c6, c7] : Array Value)[f]? = some (atp l a) := fun f hf => hdone f (Nat.zero_le _) hf
      obtain ⟨a0, l0, e0⟩ := g 0 (by omega)
      obtain ⟨a1, l1, e1⟩ := g 1 (by omega)
      obtain ⟨a2, l2, e2⟩ := g 2 (by omega)
      obtain ⟨a3, l3, e3⟩ := g 3 (by omega)
      obtain ⟨a4, l4, e4⟩ := g 4 (by omega)
      obtain ⟨a5, l5, e5⟩ := g 5 (by omega)
      obtain ⟨a6, l6, e6⟩ := g 6 (by omega)
      obtain ⟨a7, l7, e7⟩ := g 7 (by omega)
      simp at e0 e1 e2 e3 e4 e5 e6 e7
      subst e0 e1 e2 e3 e4 e5 e6 e7
      have hpost : ∀ w', Chg (fun j => j = be + 1) wo w' → AheadPost w l T (.returned (.agg #[atp l a0, atp l a1, atp l a2, atp l a3, atp l a4, atp l a5, atp l a6, atp l a7])) w' := fun w' hc => by
        refine ⟨fun | 0 => a0 | 1 => a1 | 2 => a2 | 3 => a3 | 4 => a4 | 5 => a5 | 6 => a6 | _ => a7, rfl, fun f hf => ?_, HC2.out.trans (hcr.then hc) fun k hk hs => by have := HBE.out; omega⟩
        rcases (by omega : f = 0 ∨ f = 1 ∨ f = 2 ∨ f = 3 ∨ f = 4 ∨ f = 5 ∨ f = 6 ∨ f = 7) with rfl | rfl | rfl | rfl | rfl | rfl | rfl | rfl <;> assumption
      obtain ⟨b0, o0, d0⟩ := atp_form l a0
      obtain ⟨b1, o1, d1⟩ := atp_form l a1
      obtain ⟨b2, o2, d2⟩ := atp_form l a2
      obtain ⟨b3, o3, d3⟩ := atp_form l a3
      obtain ⟨b4, o4, d4⟩ := atp_form l a4
      obtain ⟨b5, o5, d5⟩ := atp_form l a5
      obtain ⟨b6, o6, d6⟩ := atp_form l a6
      obtain ⟨b7, o7, d7⟩ := atp_form l a7
      rw [d0, d1, d2, d3, d4, d5, d6, d7] at hpost hbo
      obtain ⟨xb, xo, hxp⟩ := atp_form l A.getLast?
      rw [hxp]
      have y0 := hbo.cell 0
      have y1 := hbo.cell 1
      have y2 := hbo.cell 2
      have y3 := hbo.cell 3
      have y4 := hbo.cell 4
      have y5 := hbo.cell 5
      have y6 := hbo.cell 6
      have y7 := hbo.cell 7
      simp at y0 y1 y2 y3 y4 y5 y6 y7
      have z0 := hbo.frozen 0
      have z1 := hbo.frozen 1
      have z2 := hbo.frozen 2
      have z3 := hbo.frozen 3
      have z4 := hbo.frozen 4
      have z5 := hbo.frozen 5
      have z6 := hbo.frozen 6
      have z7 := hbo.frozen 7
      have k0 : wo.setCell ⟨be + 1, 0, none⟩ (.pointer (some ⟨b0, o0, none⟩)) = wo := set_self hbo 0 _ rfl
      have k1 : wo.setCell ⟨be + 1, 1, none⟩ (.pointer (some ⟨b1, o1, none⟩)) = wo := set_self hbo 1 _ rfl
      have k2 : wo.setCell ⟨be + 1, 2, none⟩ (.pointer (some ⟨b2, o2, none⟩)) = wo := set_self hbo 2 _ rfl
      have k3 : wo.setCell ⟨be + 1, 3, none⟩ (.pointer (some ⟨b3, o3, none⟩)) = wo := set_self hbo 3 _ rfl
      have k4 : wo.setCell ⟨be + 1, 4, none⟩ (.pointer (some ⟨b4, o4, none⟩)) = wo := set_self hbo 4 _ rfl
      have k5 : wo.setCell ⟨be + 1, 5, none⟩ (.pointer (some ⟨b5, o5, none⟩)) = wo := set_self hbo 5 _ rfl
      have k6 : wo.setCell ⟨be + 1, 6, none⟩ (.pointer (some ⟨b6, o6, none⟩)) = wo := set_self hbo 6 _ rfl
      have k7 : wo.setCell ⟨be + 1, 7, none⟩ (.pointer (some ⟨b7, o7, none⟩)) = wo := set_self hbo 7 _ rfl
      have hq1 : decide ((0 : Int) ≤ ((0 : Nat) : Int) - 1) = false := by simp
      rw [show ((0 : Nat) : Int) - 1 = -1 from rfl] at *
      have HPOST := Lib.hid hpost
      have HQK := Lib.hid hqk
      clear hpost hqk
      clear hdone g hAR hAh hkeep l0 l1 l2 l3 l4 l5 l6 l7 d0 d1 d2 d3 d4 d5 d6 d7 hbo hcr hcs hxp hk8
      go_wp2_with fail
      refine bodyPost_ret (v := .agg #[.pointer (some ⟨b0, o0, none⟩), .pointer (some ⟨b1, o1, none⟩), .pointer (some ⟨b2, o2, none⟩), .pointer (some ⟨b3, o3, none⟩), .pointer (some ⟨b4, o4, none⟩), .pointer (some ⟨b5, o5, none⟩), .pointer (some ⟨b6, o6, none⟩), .pointer (some ⟨b7, o7, none⟩)]) ?_ rfl (HPOST.out _ (Chg.refl _ _))
      simp [results, Tryz.results177, go_sem, y0, y1, y2, y3, y4, y5, y6, y7]
    · obtain ⟨f, rfl⟩ : ∃ f, k = f + 1 := ⟨k - 1, by omega⟩
      have hS := (H2.out.chg hcr (fun k hk e => hkeep k hk e) (fun k h0 hk e => by have := HCL.out k h0 hk; omega))
      obtain ⟨ab, ao, lb, hh, ea, xa, hh8, hab, hlb, hf⟩ := hS.at_ (A := A) (R := R ++ D) (by rw [HN.out, hAR, List.append_assoc])
      obtain ⟨hfh, xf⟩ := hf f (fun n hn => hAh n hn) (by omega)
      have hq0 : ((f + 1 : Nat) : Int) - 1 = (f : Int) := by omega
      rw [hq0, ea]
      have hq1 : decide ((0 : Int) ≤ (f : Int)) = true := by simp
      have hq2 : (0 : Int) ≤ (f : Int) := by omega
      have hq3 : (f : Int) < (hh : Int) := by omega
      have HQK := Lib.hid hqk
      have HAR := Lib.hid hAR
      have HAH := Lib.hid hAh
      have HCR := Lib.hid hcr
      have HBO := Lib.hid hbo
      have HCS := Lib.hid hcs
      have HDONE := Lib.hid hdone
      have HKEEP := Lib.hid hkeep
      have HS := Lib.hid hS
      have EA := Lib.hid ea
      clear hqk hAR hAh hcr hbo hcs hdone hkeep hS ea
      clear hf
      go_wp2_with fail
      rw [← EA.out]
      clear xa xf hab hlb
      go_loopg [5, 7] R.length (fun q at_ n wr => ∃ A1 R1, R1.length = q ∧ T = A1 ++ R1 ∧ at_ = atp l A1.getLast? ∧ (∀ n, A1.getLast? = some n → f < n.h) ∧ n = tptr (nextF (R1 ++ D) f) ∧ Chg (fun _ => False) wo wr)
      case atStart => exact ⟨A, R, rfl, HAR.out, rfl, fun n hn => HAH.out n hn, rfl, Chg.refl _ _⟩
      case round =>
        obtain ⟨A1, R1, hq, hA1, rfl, hA1h, rfl, hc1⟩ := hrel
        have hS1 := HS.out.same hc1
        have hE := HB1.out.chg (HCR.out.then (hc1.mono fun _ _ x => x.elim)) (by omega)
        have z0 := hE.cell 0
        have z1 := hE.cell 1
        have z2 := hE.cell 2
        have z3 := hE.cell 3
        have z4 := hE.cell 4
        simp at z0 z1 z2 z3 z4
        rcases at_cases HTL.out HDL.out hA1 hA1h with ⟨R2, m, R3, rfl, hnx, hml, hT3, hgl, hfm⟩ | ⟨hlast, hnx, hD⟩
        · have hmN : m ∈ N := by rw [HN.out, hT3]; simp
          have hnode : Blk wr m.b 146 _ := hS1.node hmN
          have x0 := hnode.cell 0
          have x1 := hnode.cell 1
          have x2 := hnode.cell 2
          have x3 := hnode.cell 3
          have x4 := hnode.cell 4
          simp at x0 x1 x2 x3 x4
          have hls := fun W => sk_less m.e e W
          rw [hml] at hls
          rw [hnx]
          rw [show tptr (some m) = Value.pointer (some ⟨m.b, 0, none⟩) from rfl]
          have HLS := Lib.hid hls
          have HS1 := Lib.hid hS1
          have HC1 := Lib.hid hc1
          have HA1 := Lib.hid hA1
          have HT3 := Lib.hid hT3
          have HGL := Lib.hid hgl
          have HNX := Lib.hid hnx
          have HA1H := Lib.hid hA1h
          have HQ := Lib.hid hq
          clear hls hS1 hc1 hA1 hT3 hgl hnx hA1h hq
          clear hE hnode hmN
          go_wp2_with fail
          go_region_held3 (fun w' => w'.cell? ⟨m.b, 0, none⟩ = some (.string m.e.key) ∧ w'.cell? ⟨m.b, 1, none⟩ = some (.int .i64 m.e.seq) ∧ w'.cell? ⟨m.b, 2, none⟩ = some (.bool m.e.gone) ∧ w'.cell? ⟨m.b, 3, none⟩ = some (.string m.e.value) ∧ w'.cell? ⟨m.b, 4, none⟩ = some (.int .i64 m.e.till) ∧ w'.cell? ⟨be, 0, none⟩ = some (.string e.key) ∧ w'.cell? ⟨be, 1, none⟩ = some (.int .i64 e.seq) ∧ w'.cell? ⟨be, 2, none⟩ = some (.bool e.gone) ∧ w'.cell? ⟨be, 3, none⟩ = some (.string e.value) ∧ w'.cell? ⟨be, 4, none⟩ = some (.int .i64 e.till))
            ((go_split_ands; (repeat' (with_reducible refine And.intro ?_ ?_)) <;> (repeat (first | with_reducible assumption | with_reducible refine ky_drew ?_ | with_reducible refine ky_chg hc5 ?_))))
            (first | (go_at_call 110; refine (HLS.out _).mono ?_; rintro r w5 ⟨rfl, hc5⟩))
          have hc15 := HC1.out.then (Chg.then (Chg.drew (Chg.refl (fun _ => False) wr)) hc5)
          have hS5 := HS.out.same hc15
          obtain ⟨ab2, ao2, lb2, hh2, ea2, ya, _, _, _, hf2⟩ := hS5.at_ (A := A1 ++ (R2 ++ [m])) (R := R3 ++ D) (by rw [HN.out, HT3.out]; simp)
          obtain ⟨hfh2, yf⟩ := hf2 f (fun n hn => by rw [HGL.out] at hn; injection hn with hn; rw [← hn]; exact hfm) (by omega)
          rw [HGL.out] at ea2
          rw [show atp l (some m) = Value.pointer (some ⟨m.b, 0, none⟩) from rfl] at ea2
          injection ea2 with ea2
          injection ea2 with ea2
          injection ea2 with ea2 ea3
          subst ea2 ea3
          have hq4 : (f : Int) < (hh2 : Int) := by omega
          have HC15 := Lib.hid hc15
          clear hc15
          clear hf2 hS5 hc5 x0 x1 x2 x3 x4 z0 z1 z2 z3 z4
          go_wp2_with fail
          go_roundg R3.length
          case measure => have := HQ.out; simp at this; omega
          case rel => exact ⟨A1 ++ (R2 ++ [m]), R3, rfl, HT3.out, by rw [HGL.out]; rfl, fun n hn => by rw [HGL.out] at hn; injection hn with hn; rw [← hn]; exact hfm, rfl, HC15.out⟩
        · rw [hnx]
          have HLAST := Lib.hid hlast
          have HS1 := Lib.hid hS1
          have HC1 := Lib.hid hc1
          have HQ := Lib.hid hq
          clear hlast hS1 hc1 hq
          clear hA1 hA1h hE
          cases hm : nextF D f with
          | none =>
            rw [show tptr none = Value.pointer none from rfl]
            clear hD hnx
            go_wp2_with fail
            go_quiet (fail)
            have hcx := HC1.out.drewN nq
            obtain ⟨wx, hwx⟩ : ∃ wx, wr.drewN nq = wx := ⟨_, rfl⟩
            rw [hwx] at hcx ⊢
            have hbx := HBO.out.chg (hcx) (by simp)
            have p1 := hbx.cell f
            have p2 := hbx.frozen f
            obtain ⟨pv, hpv⟩ : ∃ pv, cs[f]? = some pv := ⟨_, Array.getElem?_eq_getElem (by rw [HCS.out]; omega)⟩
            rw [hpv] at p1
            have hq5 : (f : Int) < 8 := by omega
            have hi := IntWalk.i64_in ((f : Int) - 1) (by omega)
            obtain ⟨xb, xo, hxp⟩ := atp_form l A1.getLast?
            rw [hxp]
            have HBX := Lib.hid hbx
            have HCX := Lib.hid hcx
            have HXP := Lib.hid hxp
            clear hbx hcx hxp
            clear hwx hpv
            go_wp2_with fail
            go_roundg f
            case measure => have := HQK.out; omega
            case rel => have hr := ahead_next hk8 HLAST.out HBX.out HCX.out HCR.out HCS.out HDONE.out; rw [HXP.out] at hr; exact hr
          | some m =>
            obtain ⟨hmD, hml⟩ := hD m hm
            have hmN : m ∈ N := by rw [HN.out]; simp [hmD]
            have hnode : Blk wr m.b 146 _ := HS1.out.node hmN
            have x0 := hnode.cell 0
            have x1 := hnode.cell 1
            have x2 := hnode.cell 2
            have x3 := hnode.cell 3
            have x4 := hnode.cell 4
            simp at x0 x1 x2 x3 x4
            have hls := fun W => sk_less m.e e W
            rw [hml] at hls
            rw [show tptr (some m) = Value.pointer (some ⟨m.b, 0, none⟩) from rfl]
            have HLS := Lib.hid hls
            clear hls
            clear hnode hmN hmD hml hm hD hnx
            go_wp2_with fail
            go_region_held3 (fun w' => w'.cell? ⟨m.b, 0, none⟩ = some (.string m.e.key) ∧ w'.cell? ⟨m.b, 1, none⟩ = some (.int .i64 m.e.seq) ∧ w'.cell? ⟨m.b, 2, none⟩ = some (.bool m.e.gone) ∧ w'.cell? ⟨m.b, 3, none⟩ = some (.string m.e.value) ∧ w'.cell? ⟨m.b, 4, none⟩ = some (.int .i64 m.e.till) ∧ w'.cell? ⟨be, 0, none⟩ = some (.string e.key) ∧ w'.cell? ⟨be, 1, none⟩ = some (.int .i64 e.seq) ∧ w'.cell? ⟨be, 2, none⟩ = some (.bool e.gone) ∧ w'.cell? ⟨be, 3, none⟩ = some (.string e.value) ∧ w'.cell? ⟨be, 4, none⟩ = some (.int .i64 e.till))
              ((go_split_ands; (repeat' (with_reducible refine And.intro ?_ ?_)) <;> (repeat (first | with_reducible assumption | with_reducible refine ky_drew ?_ | with_reducible refine ky_chg hc5 ?_))))
              (first | (go_at_call 110; refine (HLS.out _).mono ?_; rintro r w5 ⟨rfl, hc5⟩))
            have hcx := HC1.out.then (Chg.then (Chg.drew (Chg.refl (fun _ => False) wr)) hc5)
            clear hc5 x0 x1 x2 x3 x4 z0 z1 z2 z3 z4
            obtain ⟨wx, hwx⟩ : ∃ wx, w5 = wx := ⟨_, rfl⟩
            rw [hwx] at hcx ⊢
            have hbx := HBO.out.chg (hcx) (by simp)
            have p1 := hbx.cell f
            have p2 := hbx.frozen f
            obtain ⟨pv, hpv⟩ : ∃ pv, cs[f]? = some pv := ⟨_, Array.getElem?_eq_getElem (by rw [HCS.out]; omega)⟩
            rw [hpv] at p1
            have hq5 : (f : Int) < 8 := by omega
            have hi := IntWalk.i64_in ((f : Int) - 1) (by omega)
            obtain ⟨xb, xo, hxp⟩ := atp_form l A1.getLast?
            rw [hxp]
            have HBX := Lib.hid hbx
            have HCX := Lib.hid hcx
            have HXP := Lib.hid hxp
            clear hbx hcx hxp
            clear hwx hpv
            go_wp2_with fail
            go_roundg f
            case measure => have := HQK.out; omega
            case rel => have hr := ahead_next hk8 HLAST.out HBX.out HCX.out HCR.out HCS.out HDONE.out; rw [HXP.out] at hr; exact hr
end Go.Proofs.YtljabmkmngbhkaaGreatDoor
