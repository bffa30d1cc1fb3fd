/-
  The cache: contracts of find, Get, Pin, Unpin.
-/
import Derived.Test.YtafdgncjfiiekaaCacheB
namespace Go.Proofs.Ytafdgncjfiiekaa
open Go.RowKit
set_option linter.unusedVariables false
set_option linter.unusedSimpArgs false

theorem CacheAt.chg {S : Nat → Prop} {w w' : World} {c g m : Nat} {L : List Node} {B : Bud} (h : CacheAt w c g m L B) (hc : Chg S w w') (hS : ∀ k, FootC c g m L k → ¬ S k) : CacheAt w' c g m L B := by
  obtain ⟨n, f, hm, ht⟩ := h.map
  exact ⟨h.ring.chg hc (hS c (.inl rfl)) (fun x hx => hS x.id (.inr (.inr (.inr ⟨x, hx, rfl⟩)))), ⟨n, f, hm.chg hc (hS m (.inr (.inr (.inl rfl)))), ht⟩, h.bud.chg hc (hS g (.inr (.inl rfl))), h.keys, h.good, h.tot⟩
theorem CacheAt.same {w w' : World} {c g m : Nat} {L : List Node} {B : Bud} (h : CacheAt w c g m L B) (hc : Chg (fun _ => False) w w') : CacheAt w' c g m L B := h.chg hc (by simp)
theorem CacheAt.foot_lt {w : World} {c g m : Nat} {L : List Node} {B : Bud} (h : CacheAt w c g m L B) {k : Nat} (hk : FootC c g m L k) : k < w.heap.size := by
  obtain ⟨n, f, hm, ht⟩ := h.map
  rcases hk with rfl | rfl | rfl | ⟨y, hy, rfl⟩
  · exact h.ring.blk.lt
  · exact h.bud.blk.lt
  · exact hm.lt
  · exact h.ring.seg.lt hy

theorem tells_hit {f : Value → Option Value} {L : List Node} (h : Tells f L) {x : Node} (hx : x ∈ L) : f (keyV x.file x.blk) = some (.pointer (some ⟨x.id, 0, none⟩)) := (h _ _).2 ⟨x, hx, rfl, rfl⟩
theorem keyV_inj {a b c d : Int} (h : keyV a b = keyV c d) : a = c ∧ b = d := by
  unfold keyV at h
  simp at h
  exact h
theorem tells_miss {f : Value → Option Value} {L : List Node} (h : Tells f L) {a b : Int} (hx : ∀ x ∈ L, ¬ (x.file = a ∧ x.blk = b)) : f (keyV a b) = none := by
  cases hf : f (keyV a b) with
  | none => rfl
  | some v =>
    obtain ⟨x, hxL, hk, _⟩ := (h _ _).1 hf
    obtain ⟨rfl, rfl⟩ := keyV_inj hk
    exact absurd ⟨rfl, rfl⟩ (hx x hxL)

theorem cache_find_hit (c g m : Nat) (L : List Node) (B : Bud) (x : Node) (hxL : x ∈ L) (w : World) (h : CacheAt w c g m L B) :
    Calls Try.prog 47 #[.pointer (some ⟨c, 0, none⟩), .agg #[.int .i64 x.file, .int .i64 x.blk]] w fun e w' => e = .returned (.pointer (some ⟨x.id, 0, none⟩)) ∧ Chg (fun _ => False) w w' := by
  obtain ⟨n, f, hm, ht⟩ := h.map
  obtain ⟨l, hl⟩ := key_of x.file x.blk (h.good x hxL).file (h.good x hxL).blk
  have hlk : ∀ k, (Instr.lookup 82 (.map (some m)) (.agg #[.int .i64 x.file, .int .i64 x.blk]) false).run Try.prog ((w.alloc (.cells #[.int .i64 x.file, .int .i64 x.blk] 48)).drewN k) = .ok (.pointer (some ⟨x.id, 0, none⟩)) ((w.alloc (.cells #[.int .i64 x.file, .int .i64 x.blk] 48)).drewN k) := fun k => by
    have := (hm.chg (S := fun _ => False) (w' := (w.alloc (.cells #[.int .i64 x.file, .int .i64 x.blk] 48)).drewN k) (by ((repeat (first | exact Chg.refl _ _ | assumption | refine Chg.drewN ?_ _ | refine Chg.drew ?_ | refine Chg.alloc ?_ _ | refine Chg.setCell ?_ (by simp) _)))) (by simp)).look key_law Try.underlying82 (zero_pkept _) hl false
    rw [tells_hit ht hxL] at this
    exact this
  have c0 := h.ring.blk.cell 0
  have c7 := h.ring.blk.cell 7
  have hcl := h.ring.blk.lt
  simp [cacheCells, ptr] at c0 c7
  have hc0 : (w.alloc (.cells #[.int .i64 x.file, .int .i64 x.blk] 48)).cell? ⟨c, 0, none⟩ = some (.pointer (some ⟨g, 0, none⟩)) := by
    rw [World.cell?_alloc_lt _ _ _ hcl]; exact c0
  have hc7 : (w.alloc (.cells #[.int .i64 x.file, .int .i64 x.blk] 48)).cell? ⟨c, 7, none⟩ = some (.map (some m)) := by
    rw [World.cell?_alloc_lt _ _ _ hcl]; exact c7
  clear h hm ht hl c0 c7 hxL
  go_enter Try.func47, Try.ntmps47
  go_wp2_with fail
  refine (cache_works c g _ hc0).mono ?_
  rintro e w' ⟨rfl, rfl⟩
  go_wp2_with fail
  go_quiet (fail)
  go_wp2_with fail
  go_ret
  exact ⟨rfl, by ((repeat (first | exact Chg.refl _ _ | assumption | refine Chg.drewN ?_ _ | refine Chg.drew ?_ | refine Chg.alloc ?_ _ | refine Chg.setCell ?_ (by simp) _)))⟩

theorem cache_find_miss (c g m : Nat) (L : List Node) (B : Bud) (a b : Int) (ha : In64 a) (hb : In64 b) (hx : ∀ x ∈ L, ¬ (x.file = a ∧ x.blk = b)) (w : World) (h : CacheAt w c g m L B) :
    Calls Try.prog 47 #[.pointer (some ⟨c, 0, none⟩), .agg #[.int .i64 a, .int .i64 b]] w fun e w' => e = .returned (.pointer none) ∧ Chg (fun _ => False) w w' := by
  obtain ⟨n, f, hm, ht⟩ := h.map
  obtain ⟨l, hl⟩ := key_of a b ha hb
  have hlk : ∀ k, (Instr.lookup 82 (.map (some m)) (.agg #[.int .i64 a, .int .i64 b]) false).run Try.prog ((w.alloc (.cells #[.int .i64 a, .int .i64 b] 48)).drewN k) = .ok (.pointer none) ((w.alloc (.cells #[.int .i64 a, .int .i64 b] 48)).drewN k) := fun k => by
    have := (hm.chg (S := fun _ => False) (w' := (w.alloc (.cells #[.int .i64 a, .int .i64 b] 48)).drewN k) (by ((repeat (first | exact Chg.refl _ _ | assumption | refine Chg.drewN ?_ _ | refine Chg.drew ?_ | refine Chg.alloc ?_ _ | refine Chg.setCell ?_ (by simp) _)))) (by simp)).look key_law Try.underlying82 (zero_pkept _) hl false
    rw [tells_miss ht hx] at this
    exact this
  have c0 := h.ring.blk.cell 0
  have c7 := h.ring.blk.cell 7
  have hcl := h.ring.blk.lt
  simp [cacheCells, ptr] at c0 c7
  have hc0 : (w.alloc (.cells #[.int .i64 a, .int .i64 b] 48)).cell? ⟨c, 0, none⟩ = some (.pointer (some ⟨g, 0, none⟩)) := by
    rw [World.cell?_alloc_lt _ _ _ hcl]; exact c0
  have hc7 : (w.alloc (.cells #[.int .i64 a, .int .i64 b] 48)).cell? ⟨c, 7, none⟩ = some (.map (some m)) := by
    rw [World.cell?_alloc_lt _ _ _ hcl]; exact c7
  clear h hm ht hl c0 c7 hx ha hb
  go_enter Try.func47, Try.ntmps47
  go_wp2_with fail
  refine (cache_works c g _ hc0).mono ?_
  rintro e w' ⟨rfl, rfl⟩
  go_wp2_with fail
  go_quiet (fail)
  go_wp2_with fail
  go_ret
  exact ⟨rfl, by ((repeat (first | exact Chg.refl _ _ | assumption | refine Chg.drewN ?_ _ | refine Chg.drew ?_ | refine Chg.alloc ?_ _ | refine Chg.setCell ?_ (by simp) _)))⟩

theorem total_perm {L M : List Node} (h : L.Perm M) : total L = total M := by
  induction h with
  | nil => rfl
  | cons x _ ih => simp [total, ih]
  | swap x y l => simp [total]; omega
  | trans _ _ h1 h2 => exact h1.trans h2
theorem Distinct.perm {L M : List Node} (h : L.Perm M) (hd : Distinct L) : Distinct M :=
  List.Pairwise.perm hd h fun {x y} hxy hyx => hxy ⟨hyx.1.symm, hyx.2.symm⟩

/-- The budget and the map are not in the ring. -/
theorem CacheAt.not_foot {w : World} {c g m : Nat} {L : List Node} {B : Bud} (h : CacheAt w c g m L B) {L' : List Node} (hL : ∀ y ∈ L', y ∈ L) : ¬ Foot c L' g ∧ ¬ Foot c L' m := by
  obtain ⟨n, f, hm, ht⟩ := h.map
  refine ⟨?_, ?_⟩
  · rintro (e | ⟨y, hy, e⟩)
    · exact h.bud.blk.ne_ h.ring.blk (by decide) e
    · obtain ⟨_, _, hb⟩ := h.ring.seg.blk (hL y hy)
      exact hb.ne_ h.bud.blk (by decide) e
  · rintro (e | ⟨y, hy, e⟩)
    · exact h.ring.blk.ne_map hm e.symm
    · obtain ⟨_, _, hb⟩ := h.ring.seg.blk (hL y hy)
      exact hb.ne_map hm e
/-- The ring has been laid anew; the nodes are the same. -/
theorem CacheAt.relaid {w w' : World} {c g m : Nat} {L L' : List Node} {B : Bud} (h : CacheAt w c g m L B) (hr : RingAt w' c g m L') (hp : L.Perm L') (hc : Chg (Foot c L) w w') : CacheAt w' c g m L' B := by
  obtain ⟨n, f, hm, ht⟩ := h.map
  obtain ⟨ng, nm⟩ := h.not_foot (fun y hy => hy)
  refine ⟨hr, ⟨n, f, hm.chg hc nm, fun k v => ?_⟩, h.bud.chg hc ng, h.keys.perm hp, fun x hx => h.good x (hp.mem_iff.2 hx), ?_⟩
  · rw [ht k v]
    exact ⟨fun ⟨x, hx, e⟩ => ⟨x, hp.mem_iff.1 hx, e⟩, fun ⟨x, hx, e⟩ => ⟨x, hp.mem_iff.2 hx, e⟩⟩
  · rw [h.tot, total_perm hp]
theorem foot_c {c g m : Nat} {L : List Node} {k : Nat} (h : Foot c L k) : FootC c g m L k := by
  rcases h with h | h
  · exact .inl h
  · exact .inr (.inr (.inr h))

theorem cache_get_hit (c g m : Nat) (A M : List Node) (x : Node) (B : Bud) (w : World) (h : CacheAt w c g m (A ++ x :: M) B) :
    Calls Try.prog 27 #[.pointer (some ⟨c, 0, none⟩), .agg #[.int .i64 x.file, .int .i64 x.blk]] w fun e w' => e = .returned (.tuple #[.string x.data, .bool true]) ∧ CacheAt w' c g m (A ++ M ++ [x]) B ∧ Chg (FootC c g m (A ++ x :: M)) w w' := by
  have hperm : (A ++ x :: M).Perm (A ++ M ++ [x]) := by
    refine List.perm_middle.trans ?_
    exact (List.perm_append_comm (l₁ := [x]) (l₂ := A ++ M))
  have H := Lib.hid h
  have HP := Lib.hid hperm
  clear h hperm
  go_enter Try.func27, Try.ntmps27
  go_wp2_with fail
  have h1 : CacheAt (w.alloc (.cells #[.int .i64 x.file, .int .i64 x.blk] 48)) c g m (A ++ x :: M) B := H.out.same (by ((repeat (first | exact Chg.refl _ _ | assumption | refine Chg.drewN ?_ _ | refine Chg.drew ?_ | refine Chg.alloc ?_ _ | refine Chg.setCell ?_ (by simp) _))))
  refine (cache_find_hit c g m _ B x (by simp) _ h1).mono ?_
  rintro e w2 ⟨rfl, hc2⟩
  have h2 := h1.same hc2
  have hcc : Chg (FootC c g m (A ++ x :: M)) w w2 := (Chg.alloc (Chg.refl _ _) _).trans (hc2.mono (by simp)) (fun _ _ h => h)
  clear h1 hc2
  go_wp2_with fail
  refine (cache_out c g m A M x w2 h2.ring).mono ?_
  rintro e w3 ⟨rfl, hr3, hx3, hc3⟩
  go_wp2_with fail
  refine (cache_last c g m (A ++ M) x _ _ w3 hr3 hx3 ?_).mono ?_
  · intro y hy
    have := h2.ring.apart.mid
    rcases List.mem_append.1 hy with hy | hy
    · exact this.1 y hy
    · exact this.2.1 y hy
  rintro e w4 ⟨rfl, hr4, hc4⟩
  have hc5 : Chg (Foot c (A ++ x :: M)) w2 w4 := hc3.trans hc4 (by
    rintro k _ (rfl | ⟨y, hy, rfl⟩)
    · exact .inl rfl
    · exact .inr ⟨y, HP.out.mem_iff.2 hy, rfl⟩)
  have h5 := h2.relaid hr4 HP.out hc5
  have hd := hr4.seg.at_.cell 2
  simp [nodeCells] at hd
  have hcc5 := hcc.trans hc5 (fun _ _ h => foot_c h)
  clear hr3 hx3 hc3 hr4 hc4 hc5 h2 hcc
  go_wp2_with fail
  go_ret2
  exact ⟨rfl, h5, hcc5⟩

theorem cache_get_miss (c g m : Nat) (L : List Node) (B : Bud) (a b : Int) (ha : In64 a) (hb : In64 b) (hx : ∀ x ∈ L, ¬ (x.file = a ∧ x.blk = b)) (w : World) (h : CacheAt w c g m L B) :
    Calls Try.prog 27 #[.pointer (some ⟨c, 0, none⟩), .agg #[.int .i64 a, .int .i64 b]] w fun e w' => e = .returned (.tuple #[.string ⟨#[]⟩, .bool false]) ∧ Chg (fun _ => False) w w' := by
  have H := Lib.hid h
  have HX := Lib.hid hx
  clear h hx
  go_enter Try.func27, Try.ntmps27
  go_wp2_with fail
  refine (cache_find_miss c g m L B a b ha hb HX.out _ (H.out.same (by ((repeat (first | exact Chg.refl _ _ | assumption | refine Chg.drewN ?_ _ | refine Chg.drew ?_ | refine Chg.alloc ?_ _ | refine Chg.setCell ?_ (by simp) _)))))).mono ?_
  rintro e w2 ⟨rfl, hc2⟩
  go_wp2_with fail
  go_ret2
  exact ⟨rfl, Chg.then (by ((repeat (first | exact Chg.refl _ _ | assumption | refine Chg.drewN ?_ _ | refine Chg.drew ?_ | refine Chg.alloc ?_ _ | refine Chg.setCell ?_ (by simp) _)))) hc2⟩
end Go.Proofs.Ytafdgncjfiiekaa
