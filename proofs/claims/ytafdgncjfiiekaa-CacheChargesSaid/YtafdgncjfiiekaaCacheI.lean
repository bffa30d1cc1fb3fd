/-
  The cache: contracts of New, Put, Kept.
-/
import Derived.Test.YtafdgncjfiiekaaCacheH
namespace Go.Proofs.Ytafdgncjfiiekaa
open Go.RowKit
set_option linter.unusedVariables false
set_option linter.unusedSimpArgs false

theorem Chg.setOwn {w w1 : World} {g : Nat} (h : Chg (fun k => k = g) w w1) (i : Nat) (u : Value) : Chg (fun k => k = g) w (w1.setCell ⟨g, i, none⟩ u) := Chg.setCell h (fun _ => rfl) u

/-- New: the cache of any budget, or of none. -/
theorem cache_new_raw (gp : Option Addr) (w : World) :
    Calls Try.prog 25 #[.pointer gp] w fun e w' => e = .returned (.pointer (some ⟨w.heap.size + 1, 0, none⟩)) ∧ Blk w' (w.heap.size + 1) 87 #[.pointer gp, .int .i64 0, .int .i64 0, .string ⟨#[]⟩, .int .i64 0, .pointer (some ⟨w.heap.size + 1, 1, none⟩), .pointer (some ⟨w.heap.size + 1, 1, none⟩), .map (some w.heap.size)] ∧
      MapAt Try.prog 48 w' w.heap.size 0 (fun _ => none) ∧ Chg (fun _ => False) w w' ∧ w'.heap.size = w.heap.size + 2 := by
  have hmm : ∀ w : World, (Instr.makeMap 82 none).run Try.prog w = .ok (.map (some w.heap.size)) (w.alloc (.map #[] 0)) := fun w => run_makeMap 82 w
  go_enter Try.func25, Try.ntmps25
  go_wp2_with fail
  generalize hw1 : (w.alloc (.map #[] 0)).alloc (.cells #[.pointer gp, .int .i64 0, .int .i64 0, .string ⟨#[]⟩, .int .i64 0, .pointer none, .pointer none, .map (some w.heap.size)] 87) = w1
  have hb1 : Blk w1 (w.heap.size + 1) 87 #[.pointer gp, .int .i64 0, .int .i64 0, .string ⟨#[]⟩, .int .i64 0, .pointer none, .pointer none, .map (some w.heap.size)] := by
    rw [← hw1]
    have := Blk.new (w.alloc (.map #[] 0)) 87 #[.pointer gp, .int .i64 0, .int .i64 0, .string ⟨#[]⟩, .int .i64 0, .pointer none, .pointer none, .map (some w.heap.size)]
    simpa using this
  have hm1 : MapAt Try.prog 48 w1 w.heap.size 0 (fun _ => none) := by
    rw [← hw1]
    exact (MapAt.new Try.prog 48 w).chg (S := fun _ => False) (by ((repeat (first | exact Chg.refl _ _ | assumption | refine Chg.drewN ?_ _ | refine Chg.drew ?_ | refine Chg.alloc ?_ _ | refine Chg.setCell ?_ (by simp) _)))) (by simp)
  have hc1 : Chg (fun _ => False) w w1 := by rw [← hw1]; ((repeat (first | exact Chg.refl _ _ | assumption | refine Chg.drewN ?_ _ | refine Chg.drew ?_ | refine Chg.alloc ?_ _ | refine Chg.setCell ?_ (by simp) _)))
  have hs1 : w1.heap.size = w.heap.size + 2 := by rw [← hw1]; simp
  have z5 := hb1.cell 5
  have z6 := hb1.cell 6
  have f5 := hb1.frozen 5
  have f6 := hb1.frozen 6
  simp at z5 z6
  have HB := Lib.hid hb1
  have HS := Lib.hid hs1
  clear hw1 hmm hb1 hs1
  go_region
  go_wp2
  all_goals go_ret
  all_goals
    have hset := (HB.out.set_ 5 (.pointer (some ⟨w.heap.size + 1, 1, none⟩))).set_ 6 (.pointer (some ⟨w.heap.size + 1, 1, none⟩))
    have hcc : Chg (fun k => k = w.heap.size + 1) w1 (((w1.setCell ⟨w.heap.size + 1, 5, none⟩ (.pointer (some ⟨w.heap.size + 1, 1, none⟩))).setCell ⟨w.heap.size + 1, 6, none⟩ (.pointer (some ⟨w.heap.size + 1, 1, none⟩))).drew) :=
      Chg.drew (Chg.setOwn (Chg.setOwn (Chg.refl _ _) _ _) _ _)
    exact ⟨rfl, by simpa using Blk.drew hset, hm1.chg hcc (by simp), hc1.own hcc (by omega), by have := HS.out; simp [World.setCell] at this ⊢; omega⟩

theorem cache_new (g : Nat) (B : Bud) (hB : B.b = 0) (w : World) (h : BudAt w g B) :
    Calls Try.prog 25 #[.pointer (some ⟨g, 0, none⟩)] w fun e w' => e = .returned (.pointer (some ⟨w.heap.size + 1, 0, none⟩)) ∧ CacheAt w' (w.heap.size + 1) g w.heap.size [] B ∧ Chg (fun _ => False) w w' ∧ w'.heap.size = w.heap.size + 2 :=
  (cache_new_raw (some ⟨g, 0, none⟩) w).mono fun e w' ⟨he, hb, hm, hc, hs⟩ =>
    ⟨he, ⟨⟨hb, trivial, List.Pairwise.nil⟩, ⟨0, _, hm, fun k v => by simp⟩, h.chg hc (by simp), List.Pairwise.nil, by simp, by simp [total, hB]⟩, hc, hs⟩

theorem put_there (c g m : Nat) (L : List Node) (B : Bud) (x : Node) (hx : x ∈ L) (s : ByteArray) (w : World) (h : CacheAt w c g m L B) :
    Calls Try.prog 26 #[.pointer (some ⟨c, 0, none⟩), .agg #[.int .i64 x.file, .int .i64 x.blk], .string s] w fun e w' => e = .returned (.int .i64 11) ∧ Chg (fun _ => False) w w' := by
  obtain ⟨n, f, hm, ht⟩ := h.map
  obtain ⟨l, hl⟩ := key_of x.file x.blk (h.good x hx).file (h.good x hx).blk
  have hlk : ∀ k, (Instr.lookup 82 (.map (some m)) (.agg #[.int .i64 x.file, .int .i64 x.blk]) true).run Try.prog ((w.alloc (.cells #[.int .i64 x.file, .int .i64 x.blk] 48)).drewN k) = .ok (.tuple #[.pointer (some ⟨x.id, 0, none⟩), .bool true]) ((w.alloc (.cells #[.int .i64 x.file, .int .i64 x.blk] 48)).drewN k) := fun k => by
    have := (hm.chg (S := fun _ => False) (w' := (w.alloc (.cells #[.int .i64 x.file, .int .i64 x.blk] 48)).drewN k) (by ((repeat (first | exact Chg.refl _ _ | assumption | refine Chg.drewN ?_ _ | refine Chg.drew ?_ | refine Chg.alloc ?_ _ | refine Chg.setCell ?_ (by simp) _)))) (by simp)).look key_law Try.underlying82 (zero_pkept _) hl true
    rw [tells_hit ht hx] at this
    exact this
  have c0 := h.ring.blk.cell 0
  have c7 := h.ring.blk.cell 7
  have hcl := h.ring.blk.lt
  simp [cacheCells, ptr] at c0 c7
  have hc0 : (w.alloc (.cells #[.int .i64 x.file, .int .i64 x.blk] 48)).cell? ⟨c, 0, none⟩ = some (.pointer (some ⟨g, 0, none⟩)) := by
    rw [World.cell?_alloc_lt _ _ _ hcl]; exact c0
  have hc7 : (w.alloc (.cells #[.int .i64 x.file, .int .i64 x.blk] 48)).cell? ⟨c, 7, none⟩ = some (.map (some m)) := by
    rw [World.cell?_alloc_lt _ _ _ hcl]; exact c7
  clear h hm ht hl c0 c7 hx
  go_enter Try.func26, Try.ntmps26
  go_wp2_with fail
  refine (cache_works c g _ hc0).mono ?_
  rintro e w' ⟨rfl, rfl⟩
  go_wp2_with fail
  go_quiet (fail)
  go_wp2_with fail
  go_ret
  exact ⟨rfl, by ((repeat (first | exact Chg.refl _ _ | assumption | refine Chg.drewN ?_ _ | refine Chg.drew ?_ | refine Chg.alloc ?_ _ | refine Chg.setCell ?_ (by simp) _)))⟩

theorem tells_put {f : Value → Option Value} {L : List Node} {x : Node} (h : Tells f L) (hd : ∀ y ∈ L, ¬ (y.file = x.file ∧ y.blk = x.blk)) : Tells (upd f (keyV x.file x.blk) (some (.pointer (some ⟨x.id, 0, none⟩)))) (L ++ [x]) := by
  intro k v
  by_cases hk : k = keyV x.file x.blk
  · subst hk
    rw [upd_same]
    constructor
    · intro e; cases e; exact ⟨x, by simp, rfl, rfl⟩
    · rintro ⟨y, hy, e, hv⟩
      obtain ⟨e1, e2⟩ := keyV_inj e
      rcases List.mem_append.1 hy with hy | hy
      · exact absurd ⟨e1.symm, e2.symm⟩ (hd y hy)
      · simp at hy; subst hy; rw [hv]; rfl
  · rw [upd_other _ _ hk, h k v]
    constructor
    · rintro ⟨y, hy, e1, e2⟩; exact ⟨y, by simp [hy], e1, e2⟩
    · rintro ⟨y, hy, e1, e2⟩
      rcases List.mem_append.1 hy with hy | hy
      · exact ⟨y, hy, e1, e2⟩
      · simp at hy; subst hy; exact absurd e1 hk
theorem CacheAt.sub_of {L M : List Node} (h : M.Sublist L) {f b : Int} (hn : ∀ x ∈ L, ¬ (x.file = f ∧ x.blk = b)) : ∀ x ∈ M, ¬ (x.file = f ∧ x.blk = b) := fun x hx => hn x (h.subset hx)

set_option maxRecDepth 100000 in
set_option maxHeartbeats 2000000 in
theorem put_new (c g m : Nat) (L : List Node) (B : Bud) (a b : Int) (ha : In64 a) (hb : In64 b) (hn : ∀ x ∈ L, ¬ (x.file = a ∧ x.blk = b)) (s : ByteArray) (hs : s.size ≤ 140737488355328) (w : World) (h : CacheAt w c g m L B) :
    Calls Try.prog 26 #[.pointer (some ⟨c, 0, none⟩), .agg #[.int .i64 a, .int .i64 b], .string s] w fun e w' =>
      ((shrink L B (64 + (s.size : Int))).1 = false ∧ e = .returned (.int .i64 14) ∧ CacheAt w' c g m L B ∧ Chg (FootC c g m L) w w') ∨
      ((shrink L B (64 + (s.size : Int))).1 = true ∧ e = .returned (.int .i64 0) ∧ ∃ i, w.heap.size ≤ i ∧ CacheAt w' c g m ((shrink L B (64 + (s.size : Int))).2.1 ++ [⟨i, a, b, s, 0⟩]) ((shrink L B (64 + (s.size : Int))).2.2.reserve 1 (64 + (s.size : Int))).2 ∧ Chg (FootC c g m L) w w') := by
  obtain ⟨n, f, hm, ht⟩ := h.map
  obtain ⟨l, hl⟩ := key_of a b ha hb
  have hlk : ∀ k, (Instr.lookup 82 (.map (some m)) (.agg #[.int .i64 a, .int .i64 b]) true).run Try.prog ((w.alloc (.cells #[.int .i64 a, .int .i64 b] 48)).drewN k) = .ok (.tuple #[.pointer none, .bool false]) ((w.alloc (.cells #[.int .i64 a, .int .i64 b] 48)).drewN k) := fun k => by
    have := (hm.chg (S := fun _ => False) (w' := (w.alloc (.cells #[.int .i64 a, .int .i64 b] 48)).drewN k) (by ((repeat (first | exact Chg.refl _ _ | assumption | refine Chg.drewN ?_ _ | refine Chg.drew ?_ | refine Chg.alloc ?_ _ | refine Chg.setCell ?_ (by simp) _)))) (by simp)).look key_law Try.underlying82 (zero_pkept _) hl true
    rw [tells_miss ht hn] at this
    exact this
  have c0 := h.ring.blk.cell 0
  have c7 := h.ring.blk.cell 7
  have hcl := h.ring.blk.lt
  simp [cacheCells, ptr] at c0 c7
  have hc0 : (w.alloc (.cells #[.int .i64 a, .int .i64 b] 48)).cell? ⟨c, 0, none⟩ = some (.pointer (some ⟨g, 0, none⟩)) := by
    rw [World.cell?_alloc_lt _ _ _ hcl]; exact c0
  have hc7 : (w.alloc (.cells #[.int .i64 a, .int .i64 b] 48)).cell? ⟨c, 7, none⟩ = some (.map (some m)) := by
    rw [World.cell?_alloc_lt _ _ _ hcl]; exact c7
  have H := Lib.hid h
  have HN := Lib.hid hn
  have HL := Lib.hid hl
  have hina := ha
  have hinb := hb
  have hds : s.size ≤ 9223372036854775000 := by omega
  have hFT : ∀ k, FootC c g m L k → k < w.heap.size := fun k hk => h.foot_lt hk
  have HFT := Lib.hid hFT
  have hshr := fun W => cache_shrink c g m L B (64 + (s.size : Int)) W
  have HSHR := Lib.hid hshr
  have hroom := shrink_room (L := L) (B := B) (n := 64 + (s.size : Int)) h.bud.good h.tot
  have hno := shrink_no (L := L) (B := B) (n := 64 + (s.size : Int))
  have hsub := shrink_sub L B (64 + (s.size : Int))
  have HROOM := Lib.hid hroom
  have HNO := Lib.hid hno
  have HSUB := Lib.hid hsub
  clear h hm ht hl c0 c7 hn hFT hshr hroom hno hsub ha hb
  go_enter Try.func26, Try.ntmps26
  go_wp2_with fail
  refine (cache_works c g _ hc0).mono ?_
  rintro e w' ⟨rfl, rfl⟩
  go_wp2_with fail
  go_quiet (fail)
  clear hlk
  go_wp2_with fail
  refine (cache_cost s hds _).mono ?_
  rintro e w' ⟨rfl, rfl⟩
  go_wp2_with fail
  have hcw : Chg (fun _ => False) w ((w.alloc (.cells #[.int .i64 a, .int .i64 b] 48)).drewN nq) := by ((repeat (first | exact Chg.refl _ _ | assumption | refine Chg.drewN ?_ _ | refine Chg.drew ?_ | refine Chg.alloc ?_ _ | refine Chg.setCell ?_ (by simp) _)))
  have hbox : Blk ((w.alloc (.cells #[.int .i64 a, .int .i64 b] 48)).drewN nq) w.heap.size 48 #[.int .i64 a, .int .i64 b] := (Blk.new w _ _).drewN nq
  refine (HSHR.out _ (H.out.same hcw)).mono ?_
  rintro e w3 ⟨rfl, h3, hc3⟩
  have hcw3 : Chg (FootC c g m L) w w3 := (hcw.mono (by simp)).trans hc3 (fun _ _ h => h)
  have hbox3 := hbox.chg hc3 (fun hk => by have := HFT.out _ hk; omega)
  have hs3 := hc3.size
  simp at hs3
  clear hc0 hc7 hc3 hcw hbox
  cases hsr : (shrink L B (64 + (s.size : Int))).1 with
  | false =>
    rw [HNO.out hsr] at h3
    have HSR := Lib.hid hsr
    clear hsr
    go_wp2_with fail
    go_ret
    exact .inl ⟨HSR.out, rfl, h3, hcw3⟩
  | true =>
    obtain ⟨r1, r2, r3⟩ : 64 + (s.size : Int) ≤ (shrink L B (64 + (s.size : Int))).2.2.l - (shrink L B (64 + (s.size : Int))).2.2.u ∧ (shrink L B (64 + (s.size : Int))).2.2.Good ∧ (shrink L B (64 + (s.size : Int))).2.2.b = total (shrink L B (64 + (s.size : Int))).2.1 := by
      rcases HROOM.out hsr with h | h
      · exact h
      · exact absurd H.out.ring.apart h
    have hn3 := CacheAt.sub_of HSUB.out HN.out
    have HSR := Lib.hid hsr
    obtain ⟨L3, hL3⟩ : ∃ L3, L3 = (shrink L B (64 + (s.size : Int))).2.1 := ⟨_, rfl⟩
    obtain ⟨B3, hB3⟩ : ∃ B3, B3 = (shrink L B (64 + (s.size : Int))).2.2 := ⟨_, rfl⟩
    have hfoot : ∀ k, FootC c g m L3 k → FootC c g m L k := fun k hk => foot_sub (fun x hx => HSUB.out.subset (by rw [← hL3]; exact hx)) hk
    rw [← hL3, ← hB3] at h3
    rw [← hL3] at hn3
    rw [← hB3] at r1 r2 r3
    rw [← hL3] at r3
    have HL3 := Lib.hid hL3
    have HB3 := Lib.hid hB3
    clear hsr hL3 hB3
    have hres : B3.reserve 1 (64 + (s.size : Int)) = (0, B3.put 1 (B3.b + (64 + (s.size : Int)))) := by
      unfold Bud.reserve
      rw [if_neg (by omega), if_neg (by omega)]; rfl
    have c0 := h3.ring.blk.cell 0
    have hcl3 := h3.ring.blk.lt
    simp [cacheCells, ptr] at c0
    have hcg : ¬ c = g := fun e => h3.bud.blk.ne_ h3.ring.blk (by decide) e.symm
    have hrv := fun W => bud_reserve g B3 1 (64 + (s.size : Int)) W
    rw [hres] at hrv
    have HRV := Lib.hid hrv
    have H3 := Lib.hid h3
    have HRES := Lib.hid hres
    have hwl : w.heap.size < w3.heap.size := by omega
    have hwg : ¬ w.heap.size = g := fun e => by have := h3.foot_lt (k := g) (.inr (.inl rfl)); have := H.out.foot_lt (k := g) (.inr (.inl rfl)); omega
    clear hrv h3 hres
    go_wp2_with fail
    go_region_held3 (fun w' => w'.cell? ⟨c, 0, none⟩ = some (.pointer (some ⟨g, 0, none⟩)))
      (first | (go_keep; done) | (rw [hc4.cell hcl3 hcg]; assumption))
      (first
        | (go_at_call 31; refine (cache_cost s hds _).mono ?_; rintro e w' ⟨rfl, rfl⟩)
        | (go_at_call 14; refine (HRV.out _ (H3.out.bud.chg (S := fun _ => False) (by ((repeat (first | exact Chg.refl _ _ | assumption | refine Chg.drewN ?_ _ | refine Chg.drew ?_ | refine Chg.alloc ?_ _ | refine Chg.setCell ?_ (by simp) _)))) (by simp))).mono ?_; rintro e w4 ⟨rfl, hb4, hc4⟩))
    have hc4' : Chg (fun k => k = g) w3 w4 := Chg.then (Chg.drew (Chg.refl _ _)) hc4
    obtain ⟨n3, f3, hm3, ht3⟩ := H3.out.map
    obtain ⟨ng, nm⟩ := H3.out.not_foot (fun y hy => hy)
    have hgm : ¬ m = g := fun e => H3.out.bud.blk.ne_map hm3 e.symm
    have hr4 : RingAt w4 c g m L3 := H3.out.ring.chg (S := fun k => k = g) hc4' hcg (fun y hy e => ng (.inr ⟨y, hy, e⟩))
    have hm4 := hm3.chg hc4' hgm
    have hbox4 := hbox3.chg hc4' hwg
    have hs4 := hc4'.size
    have hcw4 : Chg (FootC c g m L) w w4 := hcw3.trans hc4' (fun k _ e => .inr (.inl e))
    clear c0 hbox3 hcw3 hc4 hc4'
    -- the node
    have hx5 : Blk (w4.alloc (.cells #[.int .i64 a, .int .i64 b, .string s, .int .i64 0, .pointer none, .pointer none] 85)).drew w4.heap.size 85 #[.int .i64 a, .int .i64 b, .string s, .int .i64 0, .pointer none, .pointer none] := (Blk.new w4 _ _).drew
    have hm5 : MapAt Try.prog 48 (w4.alloc (.cells #[.int .i64 a, .int .i64 b, .string s, .int .i64 0, .pointer none, .pointer none] 85)).drew m n3 f3 := hm4.chg (S := fun _ => False) (by ((repeat (first | exact Chg.refl _ _ | assumption | refine Chg.drewN ?_ _ | refine Chg.drew ?_ | refine Chg.alloc ?_ _ | refine Chg.setCell ?_ (by simp) _)))) (by simp)
    have hr5 : RingAt (w4.alloc (.cells #[.int .i64 a, .int .i64 b, .string s, .int .i64 0, .pointer none, .pointer none] 85)).drew c g m L3 := hr4.chg (S := fun _ => False) (by ((repeat (first | exact Chg.refl _ _ | assumption | refine Chg.drewN ?_ _ | refine Chg.drew ?_ | refine Chg.alloc ?_ _ | refine Chg.setCell ?_ (by simp) _)))) (by simp) (by simp)
    have hbox5 : Blk (w4.alloc (.cells #[.int .i64 a, .int .i64 b, .string s, .int .i64 0, .pointer none, .pointer none] 85)).drew w.heap.size 48 #[.int .i64 a, .int .i64 b] := hbox4.chg (S := fun _ => False) (by ((repeat (first | exact Chg.refl _ _ | assumption | refine Chg.drewN ?_ _ | refine Chg.drew ?_ | refine Chg.alloc ?_ _ | refine Chg.setCell ?_ (by simp) _)))) (by simp)
    have hb5 : BudAt (w4.alloc (.cells #[.int .i64 a, .int .i64 b, .string s, .int .i64 0, .pointer none, .pointer none] 85)).drew g (B3.put 1 (B3.b + (64 + (s.size : Int)))) := hb4.chg (S := fun _ => False) (by ((repeat (first | exact Chg.refl _ _ | assumption | refine Chg.drewN ?_ _ | refine Chg.drew ?_ | refine Chg.alloc ?_ _ | refine Chg.setCell ?_ (by simp) _)))) (by simp)
    have hcw5 : Chg (FootC c g m L) w (w4.alloc (.cells #[.int .i64 a, .int .i64 b, .string s, .int .i64 0, .pointer none, .pointer none] 85)).drew := (hcw4.alloc _).drew
    obtain ⟨w6, hup, hm6, hc6, hs6⟩ := hm5.store key_law Try.underlying82 HL.out (.pointer (some ⟨w4.heap.size, 0, none⟩))
    have hup' : (Instr.mapUpdate 82 (.map (some m)) (.agg #[.int .i64 a, .int .i64 b]) (.pointer (some ⟨w4.heap.size, 0, none⟩))).run Try.prog (w4.alloc (.cells #[.int .i64 a, .int .i64 b, .string s, .int .i64 0, .pointer none, .pointer none] 85)).drew = .ok () w6 := hup
    have hx6 := hx5.chg hc6 (hx5.ne_map hm5)
    have hr6 : RingAt w6 c g m L3 := hr5.chg hc6 (hr5.blk.ne_map hm5) (fun y hy => by obtain ⟨_, _, hb⟩ := hr5.seg.blk hy; exact hb.ne_map hm5)
    have hbox6 := hbox5.chg hc6 (hbox5.ne_map hm5)
    have hb6 := hb5.chg hc6 (hb5.blk.ne_map hm5)
    have hcw6 : Chg (FootC c g m L) w w6 := hcw5.trans hc6 (fun k _ e => .inr (.inr (.inl e)))
    have hml : m < w4.heap.size := hm4.lt
    have hlk6 : (Instr.lookup 82 (.map (some m)) (.agg #[.int .i64 a, .int .i64 b]) false).run Try.prog w6.drew = .ok (.pointer (some ⟨w4.heap.size, 0, none⟩)) w6.drew := by
      have := (hm6.drew).look key_law Try.underlying82 (zero_pkept _) HL.out false
      rw [upd_same] at this
      exact this
    have c7 := hr4.blk.cell 7
    have d0 := hbox4.cell 0
    have d1 := hbox4.cell 1
    have c7' := hr6.blk.cell 7
    have d0' := hbox6.cell 0
    have d1' := hbox6.cell 1
    simp [cacheCells, ptr] at c7 d0 d1 c7' d0' d1'
    have hcl4 := hr4.blk.lt
    have hwl4 := hbox4.lt
    have e7 : (w4.alloc (.cells #[.int .i64 a, .int .i64 b, .string s, .int .i64 0, .pointer none, .pointer none] 85)).cell? ⟨c, 7, none⟩ = some (.map (some m)) := by rw [World.cell?_alloc_lt _ _ _ hcl4]; exact c7
    have e0 : (w4.alloc (.cells #[.int .i64 a, .int .i64 b, .string s, .int .i64 0, .pointer none, .pointer none] 85)).cell? ⟨w.heap.size, 0, none⟩ = some (.int .i64 a) := by rw [World.cell?_alloc_lt _ _ _ hwl4]; exact d0
    have e1 : (w4.alloc (.cells #[.int .i64 a, .int .i64 b, .string s, .int .i64 0, .pointer none, .pointer none] 85)).cell? ⟨w.heap.size, 1, none⟩ = some (.int .i64 b) := by rw [World.cell?_alloc_lt _ _ _ hwl4]; exact d1
    have HT3 := Lib.hid ht3
    have HM6 := Lib.hid hm6
    clear hup hm5 hx5 hr5 hbox5 hb5 hcw5 hc6 hs6 hr4 hm4 hbox4 hb4 hm3 ht3 hm6
    go_wp2_with fail
    go_region_held3 (fun w' => w'.cell? ⟨c, 7, none⟩ = some (.map (some m)) ∧ w'.cell? ⟨w.heap.size, 0, none⟩ = some (.int .i64 a) ∧ w'.cell? ⟨w.heap.size, 1, none⟩ = some (.int .i64 b))
      (first | (go_keep; done) | (go_split_ands; refine ⟨?_, ?_, ?_⟩ <;> assumption)) (fail)
    clear hup' c7 d0 d1 e7 e0 e1
    have hr6' := Lib.hid (hr6.chg (S := fun _ => False) (w' := w6.drew) (by ((repeat (first | exact Chg.refl _ _ | assumption | refine Chg.drewN ?_ _ | refine Chg.drew ?_ | refine Chg.alloc ?_ _ | refine Chg.setCell ?_ (by simp) _)))) (by simp) (by simp))
    have hx6' := Lib.hid (show Blk w6.drew w4.heap.size 85 _ from hx6)
    have hne6 : ∀ y ∈ L3, y.id ≠ w4.heap.size := fun y hy => by
      have := HFT.out y.id (hfoot _ (.inr (.inr (.inr ⟨y, hy, rfl⟩))))
      omega
    have hft : ∀ k, Foot c (L3 ++ [(⟨w4.heap.size, a, b, s, 0⟩ : Node)]) k → k ≠ w.heap.size := by
      rintro k (e | ⟨y, hy, rfl⟩)
      · omega
      · rcases List.mem_append.1 hy with hy | hy
        · have := HFT.out y.id (hfoot _ (.inr (.inr (.inr ⟨y, hy, rfl⟩))))
          omega
        · simp at hy; subst hy; simp; omega
    have hw6l : w.heap.size < w6.heap.size := hbox6.lt
    have HB6 := Lib.hid hb6
    have HCW := Lib.hid hcw6
    have HR6 := Lib.hid hr6
    clear hr6 hx6 hbox6 hb6 hcw6
    go_wp2_with fail
    go_region_held3 (fun w' => w'.cell? ⟨c, 7, none⟩ = some (.map (some m)) ∧ w'.cell? ⟨w.heap.size, 0, none⟩ = some (.int .i64 a) ∧ w'.cell? ⟨w.heap.size, 1, none⟩ = some (.int .i64 b))
      (first | (go_keep; done) | (go_split_ands; refine ⟨hr7.blk.cell 7, ?_, ?_⟩ <;> (rw [hc7.cell hw6l (fun hf => hft _ hf rfl)]; assumption)))
      (first | (go_at_call 46; refine (cache_last c g m L3 ⟨w4.heap.size, a, b, s, 0⟩ _ _ _ hr6'.out hx6'.out hne6).mono ?_; rintro e w7 ⟨rfl, hr7, hc7⟩))
    go_wp2_with fail
    go_ret
    refine .inr ⟨HSR.out, rfl, w4.heap.size, by omega, ?_, ?_⟩
    · rw [← HL3.out, ← HB3.out, HRES.out]
      have hft2 : ∀ k, (∃ n f t cs, MapAt Try.prog 48 w6 k n f ∨ (Blk w6 k t cs ∧ t = 77)) → ¬ Foot c (L3 ++ [(⟨w4.heap.size, a, b, s, 0⟩ : Node)]) k := by
        rintro k ⟨n, f, t, cs, hk⟩ (e | ⟨y, hy, e⟩)
        · rcases hk with hk | ⟨hk, ht⟩
          · exact HR6.out.blk.ne_map hk e.symm
          · subst ht; exact hk.ne_ HR6.out.blk (by decide) e
        · have hyb : ∃ cs, Blk w6.drew y.id 85 cs := by
            rcases List.mem_append.1 hy with hy | hy
            · obtain ⟨_, _, hb⟩ := hr6'.out.seg.blk hy
              exact ⟨_, hb⟩
            · simp at hy; subst hy
              exact ⟨_, hx6'.out⟩
          obtain ⟨cs', hyb⟩ := hyb
          rcases hk with hk | ⟨hk, ht⟩
          · exact hyb.ne_map (hk.drew) e
          · subst ht; exact hyb.ne_ hk.drew (by decide) e
      refine ⟨hr7, ⟨_, _, (HM6.out.drew).chg hc7 (hft2 m ⟨_, _, 0, #[], .inl HM6.out⟩), tells_put (x := ⟨w4.heap.size, a, b, s, 0⟩) HT3.out hn3⟩, (HB6.out.chg (S := fun _ => False) (w' := w6.drew) (by ((repeat (first | exact Chg.refl _ _ | assumption | refine Chg.drewN ?_ _ | refine Chg.drew ?_ | refine Chg.alloc ?_ _ | refine Chg.setCell ?_ (by simp) _)))) (by simp)).chg hc7 (hft2 g ⟨0, fun _ => none, _, _, .inr ⟨HB6.out.blk, rfl⟩⟩), ?_, fun y hy => ?_, ?_⟩
      · unfold Distinct
        rw [List.pairwise_append]
        refine ⟨H3.out.keys, by simp, fun y hy z hz => ?_⟩
        simp at hz; subst hz
        exact hn3 y hy
      · rcases List.mem_append.1 hy with hy | hy
        · exact H3.out.good y hy
        · simp at hy; subst hy
          exact ⟨hina, hinb, by simp, hs⟩
      · show (B3.put 1 (B3.b + (64 + (s.size : Int)))).b = _
        rw [Bud.put_b, total_app, r3]
        simp [total, costOf]
    · refine HCW.out.drew.trans hc7 (fun k hk e => ?_)
      rcases e with e | ⟨y, hy, e⟩
      · exact .inl e
      · rcases List.mem_append.1 hy with hy | hy
        · exact hfoot k (.inr (.inr (.inr ⟨y, hy, e⟩)))
        · simp at hy; subst hy; simp at e; omega
end Go.Proofs.Ytafdgncjfiiekaa
