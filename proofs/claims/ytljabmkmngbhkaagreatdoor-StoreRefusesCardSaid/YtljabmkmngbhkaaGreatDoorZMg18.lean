/-
  What a key has in a skip list: the walk of Get.
  One tower more: how the links lie while it is linked in, floor by floor.
  One tower more: what stands behind Put. Plain lemmas; no condition.
-/
import Derived.Test.YtljabmkmngbhkaaGreatDoorZSkpD
namespace Go.Proofs.YtljabmkmngbhkaaGreatDoor
open Go.RowKit
set_option linter.unusedVariables false
set_option linter.unusedSimpArgs false

def zeroE : EntryV := ⟨⟨#[]⟩, 0, false, ⟨#[]⟩, 0⟩
def getE (N : List NodeV) (k : ByteArray) (seq : Int) : EntryV × Bool := match getN N k seq with
  | none => (zeroE, false)
  | some n => (n.e, true)
def headE (k : ByteArray) : Option NodeV → EntryV × Bool
  | none => (zeroE, false)
  | some n => if n.e.key = k then (n.e, true) else (zeroE, false)
theorem run_index8 (a0 a1 a2 a3 a4 a5 a6 a7 : Value) (w : World) : (Instr.index 277 (.agg #[a0, a1, a2, a3, a4, a5, a6, a7]) (.int .i64 0)).run Tryz.prog w = .ok a0 w := by kernel_rfl
set_option maxRecDepth 100000 in
set_option maxHeartbeats 4000000 in
theorem sk_get (l hb : Nat) (cv : Value) (coins : List Int) (N : List NodeV) (size : Int) (k : ByteArray) (seq : Int) (w : World) (h : SkipAt w l hb cv coins N size) : Calls Tryz.prog 97 #[.pointer (some ⟨l, 0, none⟩), .string k, .int .i64 seq] w fun r w' => r = .returned (.tuple #[entA (getE N k seq).1, .bool (getE N k seq).2]) ∧ Chg (fun _ => False) w w' := by
  obtain ⟨w1, hw1⟩ : ∃ w1, w1 = w.alloc (.cells #[.string ⟨#[]⟩, .int .i64 0, .bool false, .string ⟨#[]⟩, .int .i64 0] 41) := ⟨_, rfl⟩
  obtain ⟨br, hbr⟩ : ∃ br, w.heap.size = br := ⟨_, rfl⟩
  have hb1 : Blk w1 br 41 #[.string ⟨#[]⟩, .int .i64 0, .bool false, .string ⟨#[]⟩, .int .i64 0] := by rw [hw1, ← hbr]; exact Blk.new _ _ _
  have hc1 : Chg (fun _ => False) w w1 := by rw [hw1]; exact (Chg.refl _ _).alloc _
  have hah := sk_ahead l hb cv coins N size (keyE k seq) w1 (h.same hc1)
  unfold entA keyE at hah
  simp only at hah
  obtain ⟨T, hT⟩ : ∃ T, aheadN N ⟨k, seq, false, ⟨#[]⟩, 0⟩ = T := ⟨_, rfl⟩
  obtain ⟨D, hD⟩ : ∃ D, behindN N ⟨k, seq, false, ⟨#[]⟩, 0⟩ = D := ⟨_, rfl⟩
  have hN : N = T ++ D := by rw [← hT, ← hD]; exact split_N N _
  rw [hT] at hah
  have hg : getE N k seq = headE k D.head? := by
    unfold getE getN keyE headE
    rw [hD]
    cases D.head? with
    | none => rfl
    | some n =>
      simp only
      by_cases e : n.e.key = k
      · rw [if_pos e, if_pos e]
      · rw [if_neg e, if_neg e]
  obtain ⟨⟨rE, rB⟩, hr⟩ : ∃ r, getE N k seq = r := ⟨_, rfl⟩
  rw [hr] at hg ⊢
  simp only
  have hg2 : ∀ n, D.head? = n → (rE, rB) = headE k n := fun n e => by rw [hg, e]
  have HW1 := Lib.hid hw1
  have HB1 := Lib.hid hb1
  have HC1 := Lib.hid hc1
  have HAH := Lib.hid hah
  have H := Lib.hid h
  have HN := Lib.hid hN
  have HBR := Lib.hid hbr
  have HG2 := Lib.hid hg2
  clear hw1 hb1 hc1 hah h hN hbr hg2
  clear hT hD hg hr
  go_enter Tryz.func97, Tryz.ntmps97
  go_upto_region 1 with fail
  rw [HBR.out]
  rw [← HW1.out]
  go_wp2_with fail
  refine HAH.out.mono ?_
  rintro r w2 ⟨c, rfl, hla, hc2⟩
  have hc02 := HC1.out.then hc2
  have hS2 := H.out.same hc02
  have hfit := hS2.fit
  have hgr := (hla 0 (by omega)).ground fun m hm => (hfit m (by rw [HN.out]; simp [hm])).2.1
  obtain ⟨ab, ao, lb, hh, ea, xa, hh8, hab, hlb, hf⟩ := hS2.at_ HN.out
  rw [← hgr] at ea
  obtain ⟨hh0, xl⟩ := hf 0 (fun n hn => by
    have hm : n ∈ T := List.mem_of_getLast? hn
    have := (hfit n (by rw [HN.out]; simp [hm])).2.1
    omega) (by omega)
  rw [nextF_ground (fun m hm => (hfit m (by rw [HN.out]; simp [hm])).2.1)] at xl
  have hq1 : (0 : Int) < (hh : Int) := by omega
  have hb2 := HB1.out.chg hc2 (by simp)
  rw [ea]
  have hix := run_index8 (.pointer (some ⟨ab, ao, none⟩)) (atp l (c 1)) (atp l (c 2)) (atp l (c 3)) (atp l (c 4)) (atp l (c 5)) (atp l (c 6)) (atp l (c 7)) w2
  have x0 := hb2.cell 0
  have x1 := hb2.cell 1
  have x2 := hb2.cell 2
  have x3 := hb2.cell 3
  have x4 := hb2.cell 4
  simp at x0 x1 x2 x3 x4
  have f0 := hb2.frozen 0
  have f1 := hb2.frozen 1
  have f2 := hb2.frozen 2
  have f3 := hb2.frozen 3
  have f4 := hb2.frozen 4
  have HC02 := Lib.hid hc02
  have HB2 := Lib.hid hb2
  have HS2 := Lib.hid hS2
  clear hc02 hb2 hS2
  clear hla hgr hf hc2 hfit ea hab hlb
  cases hm : D.head? with
  | none =>
    rw [hm, show tptr none = Value.pointer none from rfl] at xl
    have k0 : w2.setCell ⟨br, 0, none⟩ (.string ⟨#[]⟩) = w2 := set_self HB2.out 0 _ rfl
    have k1 : w2.setCell ⟨br, 1, none⟩ (.int .i64 0) = w2 := set_self HB2.out 1 _ rfl
    have k2 : w2.setCell ⟨br, 2, none⟩ (.bool false) = w2 := set_self HB2.out 2 _ rfl
    have k3 : w2.setCell ⟨br, 3, none⟩ (.string ⟨#[]⟩) = w2 := set_self HB2.out 3 _ rfl
    have k4 : w2.setCell ⟨br, 4, none⟩ (.int .i64 0) = w2 := set_self HB2.out 4 _ rfl
    have hp := HG2.out none hm
    simp only [headE, Prod.mk.injEq] at hp
    obtain ⟨e1, e2⟩ := hp
    have E1 := Lib.hid e1
    have E2 := Lib.hid e2
    clear e1 e2
    clear hm
    go_wp2_with fail
    exact bodyPost_ret (v := .tuple #[.agg #[.string ⟨#[]⟩, .int .i64 0, .bool false, .string ⟨#[]⟩, .int .i64 0], .bool false]) (by simp [results, Tryz.results97, go_sem, x0, x1, x2, x3, x4]) rfl ⟨by rw [E1.out, E2.out]; rfl, HC02.out⟩
  | some m =>
    have hmD : m ∈ D := List.mem_of_head? hm
    have hnode : Blk w2 m.b 146 _ := HS2.out.node (m := m) (by rw [HN.out]; simp [hmD])
    have y0 := hnode.cell 0
    have y1 := hnode.cell 1
    have y2 := hnode.cell 2
    have y3 := hnode.cell 3
    have y4 := hnode.cell 4
    simp at y0 y1 y2 y3 y4
    have hbm : br ≠ m.b := HB2.out.ne_ hnode (by decide)
    have hkt := bs_test m.e.key k
    rw [hm, show tptr (some m) = Value.pointer (some ⟨m.b, 0, none⟩) from rfl] at xl
    by_cases hk : m.e.key = k
    · have q1 : (m.e.key.toList == k.toList) = true := by rw [hkt]; simp [hk]
      have q2 : (m.e.key.toList != k.toList) = false := by simp [bne, q1]
      have hp := HG2.out _ hm
      simp only [headE, if_pos hk, Prod.mk.injEq] at hp
      obtain ⟨e1, e2⟩ := hp
      have HK := Lib.hid hk
      have E1 := Lib.hid e1
      have E2 := Lib.hid e2
      clear hk e1 e2
      clear hkt hm hmD hnode
      go_wp2_with fail
      have hz := ((((HB2.out.set_ 0 (.string m.e.key)).set_ 1 (.int .i64 m.e.seq)).set_ 2 (.bool m.e.gone)).set_ 3 (.string m.e.value)).set_ 4 (.int .i64 m.e.till)
      have z0 := hz.cell 0
      have z1 := hz.cell 1
      have z2 := hz.cell 2
      have z3 := hz.cell 3
      have z4 := hz.cell 4
      simp at z0 z1 z2 z3 z4
      have hbrw := HBR.out
      have hcz : Chg (fun _ => False) w (((((w2.setCell ⟨br, 0, none⟩ (.string m.e.key)).setCell ⟨br, 1, none⟩ (.int .i64 m.e.seq)).setCell ⟨br, 2, none⟩ (.bool m.e.gone)).setCell ⟨br, 3, none⟩ (.string m.e.value)).setCell ⟨br, 4, none⟩ (.int .i64 m.e.till)) := by
        have h2 := HC02.out
        repeat (first | with_reducible exact h2 | with_reducible refine Chg.setCell ?_ (by intro h; simp at h; omega) _)
      exact bodyPost_ret (v := .tuple #[.agg #[.string m.e.key, .int .i64 m.e.seq, .bool m.e.gone, .string m.e.value, .int .i64 m.e.till], .bool true]) (by simp [results, Tryz.results97, go_sem, z0, z1, z2, z3, z4]) rfl ⟨by rw [E1.out, E2.out]; rfl, hcz⟩
    · have q1 : (m.e.key.toList == k.toList) = false := by rw [hkt]; simp [hk]
      have q2 : (m.e.key.toList != k.toList) = true := by simp [bne, q1]
      have hp := HG2.out _ hm
      simp only [headE, if_neg hk, Prod.mk.injEq] at hp
      obtain ⟨e1, e2⟩ := hp
      have E1 := Lib.hid e1
      have E2 := Lib.hid e2
      clear e1 e2
      have k0 : w2.setCell ⟨br, 0, none⟩ (.string ⟨#[]⟩) = w2 := set_self HB2.out 0 _ rfl
      have k1 : w2.setCell ⟨br, 1, none⟩ (.int .i64 0) = w2 := set_self HB2.out 1 _ rfl
      have k2 : w2.setCell ⟨br, 2, none⟩ (.bool false) = w2 := set_self HB2.out 2 _ rfl
      have k3 : w2.setCell ⟨br, 3, none⟩ (.string ⟨#[]⟩) = w2 := set_self HB2.out 3 _ rfl
      have k4 : w2.setCell ⟨br, 4, none⟩ (.int .i64 0) = w2 := set_self HB2.out 4 _ rfl
      clear hkt hm hmD hnode hk
      go_wp2_with fail
      exact bodyPost_ret (v := .tuple #[.agg #[.string ⟨#[]⟩, .int .i64 0, .bool false, .string ⟨#[]⟩, .int .i64 0], .bool false]) (by simp [results, Tryz.results97, go_sem, x0, x1, x2, x3, x4]) rfl ⟨by rw [E1.out, E2.out]; rfl, HC02.out⟩
end Go.Proofs.YtljabmkmngbhkaaGreatDoor
namespace Go.Proofs.YtljabmkmngbhkaaGreatDoor
open Go.RowKit
set_option linter.unusedVariables false
set_option linter.unusedSimpArgs false

def LinksG (w : World) (b h : Nat) (g : Nat → Option NodeV) : Prop := ∃ cs : Array Value, Blk w b 194 cs ∧ cs.size = h ∧ ∀ f, f < h → cs[f]? = some (tptr (g f))
theorem LinksG.chg {w w' : World} {b h : Nat} {g : Nat → Option NodeV} {S : Nat → Prop} (hl : LinksG w b h g) (hc : Chg S w w') (hS : ¬ S b) : LinksG w' b h g := by
  obtain ⟨cs, h1, h2, h3⟩ := hl
  exact ⟨cs, h1.chg hc hS, h2, h3⟩
theorem LinksG.of_eq {w : World} {b h : Nat} {g g' : Nat → Option NodeV} (hl : LinksG w b h g) (he : ∀ f, f < h → g f = g' f) : LinksG w b h g' := by
  obtain ⟨cs, h1, h2, h3⟩ := hl
  exact ⟨cs, h1, h2, fun f hf => by rw [h3 f hf, he f hf]⟩
/-- A link is stored. -/
theorem LinksG.set {w w' : World} {b h k : Nat} {g g' : Nat → Option NodeV} {v : Option NodeV} (hl : LinksG w b h g) (hk : k < h) (hb : ∀ cs, Blk w b 194 cs → Blk w' b 194 (cs.setIfInBounds k (tptr v))) (he : g' k = v) (ho : ∀ f, f < h → f ≠ k → g' f = g f) : LinksG w' b h g' := by
  obtain ⟨cs, h1, h2, h3⟩ := hl
  refine ⟨_, hb cs h1, by simpa using h2, fun f hf => ?_⟩
  rw [Array.getElem?_setIfInBounds]
  by_cases hfk : k = f
  · subst hfk
    rw [if_pos rfl, if_pos (by omega), he]
  · rw [if_neg hfk, h3 f hf, ho f hf (fun e => hfk e.symm)]
structure Mid (w : World) (hb : Nat) (T D : List NodeV) (x : NodeV) (k : Nat) : Prop where
  nodes : ∀ n ∈ T ++ x :: D, NodeAt w n
  head : LinksG w hb 8 (linkF T D x k)
  lt : ∀ A n R, T = A ++ n :: R → LinksG w n.nb n.h (linkF R D x k)
  ld : ∀ A n R, D = A ++ n :: R → LinksG w n.nb n.h (nextF R)
  lx : LinksG w x.nb x.h (fun f => if f < k then nextF D f else none)
/-- Where a floor is linked in: the block of links of the last tower ahead. -/
def lkb (hb : Nat) : Option NodeV → Nat
  | none => hb
  | some n => n.nb
theorem Mid.same {w w' : World} {hb : Nat} {T D : List NodeV} {x : NodeV} {k : Nat} (h : Mid w hb T D x k) (hc : Chg (fun _ => False) w w') : Mid w' hb T D x k :=
  ⟨fun n hn => Blk.chg (h.nodes n hn) hc (by simp), h.head.chg hc (by simp), fun A n R e => (h.lt A n R e).chg hc (by simp), fun A n R e => (h.ld A n R e).chg hc (by simp), h.lx.chg hc (by simp)⟩
theorem split_unique {α β : Type} (f : α → β) : ∀ {A A' R R' : List α} {n n' : α}, ((A ++ n :: R).map f).Nodup → A ++ n :: R = A' ++ n' :: R' → f n = f n' → A = A' ∧ n = n' ∧ R = R'
  | [], [], R, R', n, n', _, e, _ => by
    simp at e
    exact ⟨rfl, e.1, e.2⟩
  | [], y :: A', R, R', n, n', hn, e, h => by
    simp at e
    obtain ⟨rfl, rfl⟩ := e
    simp at hn
    exact absurd h (hn.1.2.1)
  | y :: A, [], R, R', n, n', hn, e, h => by
    simp at e
    obtain ⟨rfl, rfl⟩ := e
    simp at hn
    exact absurd h.symm (hn.1.2.1)
  | y :: A, z :: A', R, R', n, n', hn, e, h => by
    simp only [List.cons_append, List.cons.injEq] at e
    obtain ⟨rfl, e⟩ := e
    simp only [List.cons_append, List.map_cons, List.nodup_cons] at hn
    obtain ⟨h1, h2, h3⟩ := split_unique f hn.2 e h
    exact ⟨by rw [h1], h2, h3⟩
theorem linkF_other (R D : List NodeV) (x : NodeV) {k f : Nat} (h : f ≠ k) : linkF R D x (k + 1) f = linkF R D x k f := by
  unfold linkF
  by_cases h1 : f < k
  · rw [if_pos h1, if_pos (by omega)]
  · rw [if_neg h1, if_neg (by omega)]
theorem linkF_now (R D : List NodeV) (x : NodeV) (k : Nat) : linkF R D x (k + 1) k = nextF (R ++ x :: D) k := if_pos (by omega)
theorem linkF_then (R D : List NodeV) (x : NodeV) (k : Nat) : linkF R D x k k = nextF (R ++ D) k := if_neg (by omega)
section
variable {w w' : World} {hb k : Nat} {T D : List NodeV} {x : NodeV} {a : Option NodeV}
/-- What the last tower ahead is linked with. -/
theorem Mid.link (h : Mid w hb T D x k) (ha : LastN T k a) (hk : k < x.h) (hk8 : k < 8) (hh : ∀ n ∈ T, n.h ≤ 8) : ∃ cs : Array Value, Blk w (lkb hb a) 194 cs ∧ k < cs.size ∧ cs.size ≤ 8 ∧ cs[k]? = some (tptr (nextF D k)) ∧ (a = none → cs.size = 8) ∧ (∀ n, a = some n → n ∈ T ∧ cs.size = n.h) := by
  obtain ⟨l1, l2⟩ := last_link (D := D) hk ha
  cases a with
  | none =>
    obtain ⟨cs, h1, h2, h3⟩ := h.head
    refine ⟨cs, h1, by omega, by omega, ?_, fun _ => h2, (fun n e => by cases e)⟩
    rw [h3 k hk8, linkF_then, (l2 rfl).1]
  | some n =>
    obtain ⟨A', R', e, h4, h5⟩ := l1 n rfl
    obtain ⟨cs, h1, h2, h3⟩ := h.lt A' n R' e
    have hn : n ∈ T := by rw [e]; simp
    have hkh : k < n.h := by obtain ⟨_, _, _, _, h6, _⟩ := ha; exact h6 n rfl
    refine ⟨cs, h1, by omega, by have := hh n hn; omega, ?_, (fun e => by cases e), (fun m em => by injection em with em; subst em; exact ⟨hn, h2⟩)⟩
    rw [h3 k hkh, linkF_then, h4]
theorem Mid.step (h : Mid w hb T D x k) (ha : LastN T k a) (hk : k < x.h) (hk8 : k < 8) (hh : ∀ n ∈ T, n.h ≤ 8) (hnd : (hb :: (T ++ D).map (·.nb)).Nodup) (hx : ∀ j ∈ hb :: (T ++ D).map (·.nb), j ≠ x.nb)
    (hc : Chg (fun j => j = x.nb ∨ j = lkb hb a) w w') (h1 : ∀ cs, Blk w x.nb 194 cs → Blk w' x.nb 194 (cs.setIfInBounds k (tptr (nextF D k)))) (h2 : ∀ cs, Blk w (lkb hb a) 194 cs → Blk w' (lkb hb a) 194 (cs.setIfInBounds k (tptr (some x)))) : Mid w' hb T D x (k + 1) := by
  obtain ⟨l1, l2⟩ := last_link (D := D) hk ha
  obtain ⟨csl, bl, _⟩ := h.link ha hk hk8 hh
  obtain ⟨csx, bx, _⟩ := h.lx
  simp only [List.nodup_cons] at hnd
  obtain ⟨hhb, hnd⟩ := hnd
  have mem : ∀ n ∈ T ++ D, n.nb ≠ hb ∧ n.nb ≠ x.nb := fun n hn => ⟨fun e => hhb (List.mem_map.2 ⟨n, hn, e⟩), hx _ (List.mem_cons_of_mem _ (List.mem_map.2 ⟨n, hn, rfl⟩))⟩
  have hbx : hb ≠ x.nb := hx hb (List.mem_cons_self ..)
  refine ⟨fun n hn => ?_, ?_, fun A n R e => ?_, fun A n R e => ?_, ?_⟩
  · have hb' : Blk w n.b 146 _ := h.nodes n hn
    refine Blk.chg hb' hc fun e => ?_
    rcases e with e | e
    · exact hb'.ne_ bx (by decide) e
    · exact hb'.ne_ bl (by decide) e
  · cases a with
    | none => exact h.head.set hk8 h2 (by rw [linkF_now, (l2 rfl).2]) fun f _ hf => linkF_other _ _ _ hf
    | some n =>
      have hn : n ∈ T := by obtain ⟨A', R', e, _⟩ := l1 n rfl; rw [e]; simp
      refine (h.head.chg hc fun e => ?_).of_eq fun f hf => ?_
      · rcases e with e | e
        · exact hbx e
        · exact (mem n (by simp [hn])).1 e.symm
      · by_cases hfk : f = k
        · subst hfk; rw [linkF_now, linkF_then, head_keep ha]
        · rw [linkF_other _ _ _ hfk]
  · have hn : n ∈ T := by rw [e]; simp
    by_cases hl : n.nb = lkb hb a
    · cases a with
      | none => exact absurd hl (mem n (by simp [hn])).1
      | some m =>
        obtain ⟨A', R', e', _, h5⟩ := l1 m rfl
        have hnd2 : ((A ++ n :: R).map (·.nb)).Nodup := by
          rw [List.map_append] at hnd
          rw [← e]
          exact (List.nodup_append.1 hnd).1
        obtain ⟨_, rfl, rfl⟩ := split_unique (·.nb) hnd2 (e ▸ e') hl
        have hkh : k < n.h := by obtain ⟨_, _, _, _, h6, _⟩ := ha; exact h6 n rfl
        exact (h.lt A n R e).set hkh h2 (by rw [linkF_now, h5]) fun f _ hf => linkF_other _ _ _ hf
    · refine ((h.lt A n R e).chg hc fun e => ?_).of_eq fun f hf => ?_
      · rcases e with e | e
        · exact (mem n (by simp [hn])).2 e
        · exact hl e
      · by_cases hfk : f = k
        · subst hfk
          rw [linkF_now, linkF_then, linkF_keep ha e (fun ea => hl (by rw [ea]; rfl)) hf]
        · rw [linkF_other _ _ _ hfk]
  · have hn : n ∈ D := by rw [e]; simp
    refine (h.ld A n R e).chg hc fun e' => ?_
    rcases e' with e' | e'
    · exact (mem n (by simp [hn])).2 e'
    · cases a with
      | none => exact (mem n (by simp [hn])).1 e'
      | some m =>
        have hm : m ∈ T := by obtain ⟨A', R', e, _⟩ := l1 m rfl; rw [e]; simp
        rw [List.map_append] at hnd
        exact (List.nodup_append.1 hnd).2.2 m.nb (List.mem_map.2 ⟨m, hm, rfl⟩) n.nb (List.mem_map.2 ⟨n, hn, rfl⟩) e'.symm
  · refine h.lx.set hk h1 (by simp) fun f _ hf => ?_
    by_cases h3 : f < k
    · simp [h3, show f < k + 1 by omega]
    · simp [h3, show ¬ f < k + 1 by omega]
theorem Mid.both (h : Mid w hb T D x k) (ha : LastN T k a) (hk : k < x.h) (hk8 : k < 8) (hh : ∀ n ∈ T, n.h ≤ 8) (hnd : (hb :: (T ++ D).map (·.nb)).Nodup) (hx : ∀ j ∈ hb :: (T ++ D).map (·.nb), j ≠ x.nb) :
    lkb hb a ≠ x.nb ∧ Mid ((w.setCell ⟨x.nb, k, none⟩ (tptr (nextF D k))).setCell ⟨lkb hb a, k, none⟩ (tptr (some x))) hb T D x (k + 1) ∧ Mid ((w.setCell ⟨lkb hb a, k, none⟩ (tptr (some x))).setCell ⟨x.nb, k, none⟩ (tptr (nextF D k))) hb T D x (k + 1) := by
  obtain ⟨l1, _⟩ := last_link (D := D) hk ha
  have hne : lkb hb a ≠ x.nb := by
    cases a with
    | none => exact hx hb (List.mem_cons_self ..)
    | some n =>
      obtain ⟨A', R', e, _⟩ := l1 n rfl
      exact hx n.nb (List.mem_cons_of_mem _ (List.mem_map.2 ⟨n, by rw [e]; simp, rfl⟩))
  refine ⟨hne, h.step ha hk hk8 hh hnd hx ?_ (fun cs hb' => ?_) (fun cs hb' => ?_), h.step ha hk hk8 hh hnd hx ?_ (fun cs hb' => ?_) (fun cs hb' => ?_)⟩
  · exact Chg.setCell (Chg.setCell (Chg.refl _ _) (fun _ => .inl rfl) _) (fun _ => .inr rfl) _
  · exact (hb'.set_ k _).far hne.symm _
  · exact (hb'.far (p := ⟨x.nb, k, none⟩) hne _).set_ k _
  · exact Chg.setCell (Chg.setCell (Chg.refl _ _) (fun _ => .inr rfl) _) (fun _ => .inl rfl) _
  · exact (hb'.far (p := ⟨lkb hb a, k, none⟩) hne.symm _).set_ k _
  · exact (hb'.set_ k _).far hne _
/-- The tower stands, and nothing is linked yet. -/
theorem Mid.start {l : Nat} {cv : Value} {coins : List Int} {N : List NodeV} {size : Int} {S : Nat → Prop} (h : SkipAt w l hb cv coins N size) (hN : N = T ++ D) (hc : Chg S w w') (hS : ∀ j, S j → j = l) (hx : NodeAt w' x) (hl : Blk w' x.nb 194 (Array.replicate x.h (.pointer none))) : Mid w' hb T D x 0 := by
  subst hN
  have off : ∀ b cs, Blk w b 194 cs → ¬ S b := fun b cs hb' e => hb'.ne_ h.blk (by decide) (hS _ e)
  have lk : ∀ {b hh : Nat} {R : List NodeV}, Links w b hh R → LinksG w' b hh (nextF R) := fun hl => by
    obtain ⟨cs, h1, h2, h3⟩ := hl
    exact ⟨cs, h1.chg hc (off _ _ h1), h2, h3⟩
  refine ⟨fun n hn => ?_, (lk h.head).of_eq fun f _ => (linkF_zero _ _ _ _).symm, fun A n R e => ?_, fun A n R e => ?_, ⟨_, hl, by simp, fun f hf => ?_⟩⟩
  · rcases List.mem_append.1 hn with hn | hn
    · have hb' : Blk w n.b 146 _ := h.node (m := n) (by simp [hn])
      exact hb'.chg hc fun e => hb'.ne_ h.blk (by decide) (hS _ e)
    · rcases List.mem_cons.1 hn with rfl | hn
      · exact hx
      · have hb' : Blk w n.b 146 _ := h.node (m := n) (by simp [hn])
        exact hb'.chg hc fun e => hb'.ne_ h.blk (by decide) (hS _ e)
  · have := (h.nodes A n (R ++ D) (by rw [e]; simp)).2
    exact (lk this).of_eq fun f _ => (linkF_zero _ _ _ _).symm
  · exact lk (h.nodes (T ++ A) n R (by rw [e]; simp)).2
  · rw [Array.getElem?_replicate, if_pos hf]
    simp [tptr]
theorem arr8_get (f : Nat → Value) {k : Nat} (hk : k < 8) : (#[f 0, f 1, f 2, f 3, f 4, f 5, f 6, f 7] : Array Value)[k]? = some (f k) := by
  rcases (by omega : k = 0 ∨ k = 1 ∨ k = 2 ∨ k = 3 ∨ k = 4 ∨ k = 5 ∨ k = 6 ∨ k = 7) with rfl | rfl | rfl | rfl | rfl | rfl | rfl | rfl <;> rfl
theorem tptr_form (a : Option NodeV) : ∃ p, tptr a = .pointer p := by
  cases a with
  | none => exact ⟨_, rfl⟩
  | some n => exact ⟨_, rfl⟩
/-- How the links of the last tower ahead are read. -/
theorem Mid.reads {l : Nat} {cv e1 e2 e3 e4 e5 e6 e7 : Value} (h : Mid w hb T D x k) (hbl : Blk w l 148 #[cv, e1, e2, e3, e4, e5, .slice (some ⟨hb, 0, none⟩) 8 8, e6, e7]) (ha : LastN T k a) (hk : k < x.h) (hk8 : k < 8) (hh : ∀ n ∈ T, n.h ≤ 8) :
    ∃ ab ao hx cs, atp l a = .pointer (some ⟨ab, ao, none⟩) ∧ w.cell? ⟨ab, ao + 5, none⟩ = some (.slice (some ⟨lkb hb a, 0, none⟩) hx hx) ∧ k < hx ∧ hx ≤ 8 ∧ Blk w (lkb hb a) 194 cs ∧ w.cell? ⟨lkb hb a, k, none⟩ = some (tptr (nextF D k)) := by
  obtain ⟨cs, h1, h2, h3, h4, h5, h6⟩ := h.link ha hk hk8 hh
  cases a with
  | none =>
    refine ⟨l, 1, 8, cs, rfl, ?_, hk8, by omega, h1, by rw [h1.cell, h4]⟩
    rw [hbl.cell]
    rfl
  | some n =>
    obtain ⟨hn, he⟩ := h6 n rfl
    have hb' : Blk w n.b 146 _ := h.nodes n (by simp [hn])
    refine ⟨n.b, 0, n.h, cs, rfl, ?_, by omega, by omega, h1, by rw [h1.cell, h4]⟩
    rw [hb'.cell]
    rfl
theorem Mid.done (h : Mid w hb T D x k) (hk : x.h ≤ k) : (∀ n ∈ T ++ x :: D, NodeAt w n) ∧ Links w hb 8 (T ++ x :: D) ∧ ∀ A n R, T ++ x :: D = A ++ n :: R → Links w n.nb n.h R := by
  refine ⟨h.nodes, ?_, fun A n R e => ?_⟩
  · obtain ⟨cs, h1, h2, h3⟩ := h.head
    exact ⟨cs, h1, h2, fun f hf => by rw [h3 f hf, linkF_all _ _ _ hk]⟩
  · rcases List.append_eq_append_iff.1 e with ⟨C, h4, h5⟩ | ⟨C, h4, h5⟩
    · -- A = T ++ C, x :: D = C ++ n :: R
      cases C with
      | nil =>
        simp at h5
        obtain ⟨rfl, rfl⟩ := h5
        obtain ⟨cs, h1, h2, h3⟩ := h.lx
        exact ⟨cs, h1, h2, fun f hf => by rw [h3 f hf]; simp [show f < k by omega]⟩
      | cons y C =>
        simp only [List.cons_append, List.cons.injEq] at h5
        obtain ⟨_, h5⟩ := h5
        exact h.ld C n R h5
    · -- T = A ++ C, n :: R = C ++ x :: D
      cases C with
      | nil =>
        simp at h5
        obtain ⟨rfl, rfl⟩ := h5
        obtain ⟨cs, h1, h2, h3⟩ := h.lx
        exact ⟨cs, h1, h2, fun f hf => by rw [h3 f hf]; simp [show f < k by omega]⟩
      | cons y C =>
        simp only [List.cons_append, List.cons.injEq] at h5
        obtain ⟨rfl, rfl⟩ := h5
        obtain ⟨cs, h1, h2, h3⟩ := h.lt A n C h4
        exact ⟨cs, h1, h2, fun f hf => by rw [h3 f hf, linkF_all _ _ _ hk]⟩
end
end Go.Proofs.YtljabmkmngbhkaaGreatDoor
namespace Go.Proofs.YtljabmkmngbhkaaGreatDoor
open Go.RowKit
set_option linter.unusedVariables false
set_option linter.unusedSimpArgs false

def PutPost (w : World) (l hb : Nat) (cv : Value) (coins : List Int) (N : List NodeV) (size : Int) (e : EntryV) (r : Ending) (w' : World) : Prop :=
  ∃ x : NodeV, x.e = e ∧ x.h = heightV coins N.length ∧ w.heap.size ≤ x.b ∧ w.heap.size ≤ x.nb ∧ r = .returned (.int .i64 0) ∧ SkipAt w' l hb cv coins (putN N x) (size + costE x.h e) ∧ Chg (SkFoot l hb N) w w'
theorem goodK_zero {e : EntryV} (h : goodK e = 0) : e.key.size ≤ 64 ∧ e.value.size ≤ 512 := by
  unfold goodK at h
  by_cases h1 : e.key.size > 64 ∨ e.value.size > 512
  · rw [if_pos h1] at h; omega
  · omega
theorem put_post {w w5 w7 wr : World} {l hb : Nat} {cv : Value} {coins : List Int} {N T D : List NodeV} {size : Int} {e : EntryV} {x : NodeV} (h : SkipAt w l hb cv coins N size) (hN : N = T ++ D) (hT : aheadN N e = T) (hD : behindN N e = D) (hn : ∀ m ∈ N, cmpE m.e e ≠ 0) (hlen : N.length < 1000000000) (hg : goodK e = 0) (hfit : EntFit e)
    (xe : x.e = e) (xh : x.h = heightV coins N.length) (xb : w.heap.size ≤ x.b) (xn : w.heap.size ≤ x.nb) (hc05 : Chg (fun _ => False) w w5) (hc57 : Chg (fun k => k = l) w5 w7) (hcr : Chg (fun j => j = x.nb ∨ j = hb ∨ ∃ n ∈ T, j = n.nb) w7 wr) (hm : Mid wr hb T D x x.h)
    (hbl : Blk wr l 148 #[cv, .string ⟨#[]⟩, .int .i64 0, .bool false, .string ⟨#[]⟩, .int .i64 0, .slice (some ⟨hb, 0, none⟩) 8 8, .int .i64 (N.length : Int), .int .i64 (size + costE x.h e)]) :
    PutPost w l hb cv coins N size e (.returned (.int .i64 0)) (wr.setCell ⟨l, 7, none⟩ (.int .i64 ((N.length : Int) + 1))) := by
  obtain ⟨wz, hwz⟩ : ∃ wz, wz = wr.setCell ⟨l, 7, none⟩ (.int .i64 ((N.length : Int) + 1)) := ⟨_, rfl⟩
  rw [← hwz]
  have hput : putN N x = T ++ x :: D := by unfold putN; rw [xe, hT, hD]
  obtain ⟨d1, d2, d3⟩ := hm.done (Nat.le_refl _)
  have hcz : Chg (fun k => k = l) wr wz := by rw [hwz]; exact Chg.setCell (S := fun k => k = l) (Chg.refl _ _) (p := ⟨l, 7, none⟩) (fun _ => rfl) _
  have hcall : Chg (SkFoot l hb N) w wz := by
    have h1 : Chg (fun k => k = l) w w7 := (hc05.mono fun _ _ x => x.elim).then hc57
    have h2 : Chg (SkFoot l hb N) w wr := (h1.mono fun k _ e => .inl e).trans hcr fun k hk e => by
      rcases e with rfl | rfl | ⟨n, hn, rfl⟩
      · omega
      · exact .inr (.inl rfl)
      · exact .inr (.inr ⟨n, by rw [hN]; simp [hn], .inr rfl⟩)
    exact h2.trans hcz fun k _ e => .inl e
  have hoffp : ∀ b cs, Blk wr b 194 cs → b ≠ l := fun b cs hb' => hb'.ne_ hbl (by decide)
  have hoffn : ∀ b cs, Blk wr b 146 cs → b ≠ l := fun b cs hb' => hb'.ne_ hbl (by decide)
  have lk : ∀ {b hh : Nat} {R : List NodeV}, Links wr b hh R → Links wz b hh R := fun hl => by
    obtain ⟨cs, h1, h2, h3⟩ := hl
    exact ⟨cs, h1.chg hcz (hoffp _ _ h1), h2, h3⟩
  obtain ⟨g1, g2⟩ := goodK_zero hg
  obtain ⟨h8a, h8b⟩ := heightV_le coins N.length
  have hlt : ∀ n ∈ T ++ D, n.nb < w.heap.size := fun n hn => h.lt _ (.inr (.inr ⟨n, by rw [hN]; exact hn, .inr rfl⟩))
  have hhb : hb < w.heap.size := h.lt _ (.inr (.inl rfl))
  have hap := h.apart
  rw [hN] at hap
  refine ⟨x, xe, xh, xb, xn, rfl, ?_, hcall⟩
  rw [hput]
  have hlenp : (T ++ x :: D).length = N.length + 1 := by rw [hN]; simp; omega
  have coinlt : ∀ k, coins.length ≠ 0 → cv.ownBlock = some k → k < w.heap.size := fun k h0 hk => h.coin.lt h0 hk
  exact {
    blk := by
      rw [hlenp, hwz]
      have := hbl.set_ 7 (.int .i64 ((N.length : Int) + 1))
      simpa using this
    coin := h.coin.chg hcall fun k h0 hk => h.coff k h0 hk
    coff := fun k h0 hk hf => by
      have hkl := coinlt k h0 hk
      have hnf := h.coff k h0 hk
      rcases hf with rfl | rfl | ⟨n, hn, hk'⟩
      · exact hnf (.inl rfl)
      · exact hnf (.inr (.inl rfl))
      · rcases List.mem_append.1 hn with hn | hn
        · exact hnf (.inr (.inr ⟨n, by rw [hN]; simp [hn], hk'⟩))
        · rcases List.mem_cons.1 hn with rfl | hn
          · rcases hk' with rfl | rfl <;> omega
          · exact hnf (.inr (.inr ⟨n, by rw [hN]; simp [hn], hk'⟩))
    head := lk d2
    nodes := fun A n R e' => by
      have hnode : Blk wr n.b 146 _ := d1 n (by rw [e']; simp)
      exact ⟨hnode.chg hcz (hoffn _ _ hnode), lk (d3 A n R e')⟩
    ord := by
      have := putN_ord (x := x) h.ord (fun m hm => by rw [xe]; exact hn m hm)
      rwa [hput] at this
    fit := fun n hn => by
      rcases List.mem_append.1 hn with hn | hn
      · exact h.fit n (by rw [hN]; simp [hn])
      · rcases List.mem_cons.1 hn with rfl | hn
        · rw [xe, xh]; exact ⟨hfit, h8a, h8b⟩
        · exact h.fit n (by rw [hN]; simp [hn])
    apart := by
      rw [List.map_append, List.map_cons]
      rw [List.map_append] at hap
      simp only [List.nodup_cons, List.nodup_append, List.mem_append, List.mem_cons, not_or] at hap ⊢
      obtain ⟨⟨a1, a2⟩, a3, a4, a5⟩ := hap
      have xnT : x.nb ∉ T.map (·.nb) := fun hx => by
        obtain ⟨n, hn, e⟩ := List.mem_map.1 hx
        have := hlt n (by simp [hn]); omega
      have xnD : x.nb ∉ D.map (·.nb) := fun hx => by
        obtain ⟨n, hn, e⟩ := List.mem_map.1 hx
        have := hlt n (by simp [hn]); omega
      refine ⟨⟨a1, by omega, a2⟩, a3, ⟨xnD, a4⟩, fun a ha b hb' => ?_⟩
      rcases hb' with rfl | hb'
      · exact fun e => xnT (e ▸ ha)
      · exact a5 a ha b hb'
    sz := by
      obtain ⟨s0, s1⟩ := h.sz
      rw [hlenp]
      unfold costE
      rw [xh]
      constructor <;> omega
    len := by rw [hlenp]; omega }
end Go.Proofs.YtljabmkmngbhkaaGreatDoor
