/-
  The cache: the contract of drop.
-/
import Derived.Test.YtafdgncjfiiekaaCacheD
namespace Go.Proofs.Ytafdgncjfiiekaa
open Go.RowKit
set_option linter.unusedVariables false
set_option linter.unusedSimpArgs false

theorem Bud.release_b {B : Bud} {k : Int} (h0 : 0 ≤ k) (h1 : k ≤ B.b) : B.release 1 k = (0, B.put 1 (B.b - k)) := by
  unfold Bud.release
  rw [if_neg (by omega)]
  have : B.of 1 = B.b := rfl
  rw [this, if_neg (by omega)]
theorem Bud.put_b (B : Bud) (y : Int) : (B.put 1 y).b = y := by simp [Bud.put]

theorem tells_del {f : Value → Option Value} {A M : List Node} {x : Node} (h : Tells f (A ++ x :: M)) (hd : Distinct (A ++ x :: M)) : Tells (upd f (keyV x.file x.blk) none) (A ++ M) := by
  intro k v
  have hd' : ∀ y ∈ A ++ M, ¬ (y.file = x.file ∧ y.blk = x.blk) := by
    unfold Distinct at hd
    rw [List.pairwise_append, List.pairwise_cons] at hd
    intro y hy
    rcases List.mem_append.1 hy with hy | hy
    · exact hd.2.2 y hy x (by simp)
    · exact fun e => hd.2.1.1 y hy ⟨e.1.symm, e.2.symm⟩
  by_cases hk : k = keyV x.file x.blk
  · subst hk
    rw [upd_same]
    constructor
    · intro h; cases h
    · rintro ⟨y, hy, e, _⟩
      obtain ⟨e1, e2⟩ := keyV_inj e
      exact absurd ⟨e1.symm, e2.symm⟩ (hd' y hy)
  · rw [upd_other _ _ hk, h k v]
    constructor
    · rintro ⟨y, hy, e1, e2⟩
      refine ⟨y, ?_, e1, e2⟩
      rcases List.mem_append.1 hy with hy | hy
      · simp [hy]
      · rcases List.mem_cons.1 hy with rfl | hy
        · exact absurd e1 hk
        · simp [hy]
    · rintro ⟨y, hy, e1, e2⟩
      refine ⟨y, ?_, e1, e2⟩
      rcases List.mem_append.1 hy with hy | hy <;> simp [hy]
theorem Distinct.del {A M : List Node} {x : Node} (hd : Distinct (A ++ x :: M)) : Distinct (A ++ M) := by
  unfold Distinct at *
  exact hd.sublist (List.Sublist.append_left (List.sublist_cons_self _ _) _)

set_option maxHeartbeats 1000000 in
theorem cache_drop1 (c g m : Nat) (A M : List Node) (x : Node) (B : Bud) (w : World) (h : CacheAt w c g m (A ++ x :: M) B) :
    Calls Try.prog 51 #[.pointer (some ⟨c, 0, none⟩), .pointer (some ⟨x.id, 0, none⟩)] w fun e w' => e = .returned (.tuple #[]) ∧ CacheAt w' c g m (A ++ M) (B.release 1 (costOf x)).2 ∧ Chg (FootC c g m (A ++ x :: M)) w w' := by
  obtain ⟨n, f, hm, ht⟩ := h.map
  obtain ⟨l, hl⟩ := key_of x.file x.blk (h.good x (by simp)).file (h.good x (by simp)).blk
  obtain ⟨ng, nm⟩ := h.not_foot (fun y hy => hy)
  have hdata := (h.good x (by simp)).data
  have hgm : g ≠ m := h.bud.blk.ne_map hm
  have H := Lib.hid h
  have HM := Lib.hid hm
  have HT := Lib.hid ht
  have HNG := Lib.hid ng
  have HNM := Lib.hid nm
  have HGM := Lib.hid hgm
  clear h hm ht ng nm hgm
  go_enter Try.func51, Try.ntmps51
  go_wp2_with fail
  refine (cache_out c g m A M x w H.out.ring).mono ?_
  rintro e w3 ⟨rfl, hr3, hx3, hc3⟩
  have hm3 := HM.out.chg hc3 HNM.out
  obtain ⟨w4, hdel, hm4, hc4, hs4⟩ := (hm3.drew).drop (ty := 0) key_law Try.underlying82 hl
  have hdel' : ∀ ty, (Builtin.delete_ #[82, 48] ty #[.map (some m), .agg #[.int .i64 x.file, .int .i64 x.blk]]).run Try.prog w3.drew = .ok (.tuple #[]) w4 := fun ty => hdel
  have c7 := hr3.blk.cell 7
  have x0 := hx3.cell 0
  have x1 := hx3.cell 1
  simp [nodeCells, cacheCells, ptr] at c7 x0 x1
  have hr4 : RingAt w4 c g m (A ++ M) := (hr3.chg (w' := w3.drew) (S := fun _ => False) (by ((repeat (first | exact Chg.refl _ _ | assumption | refine Chg.drewN ?_ _ | refine Chg.drew ?_ | refine Chg.alloc ?_ _ | refine Chg.setCell ?_ (by simp) _)))) (by simp) (by simp)).chg hc4 (hr3.blk.ne_map hm3) (fun y hy => by
    obtain ⟨_, _, hb⟩ := hr3.seg.blk hy
    exact hb.ne_map hm3)
  have hx4 : Blk w4 x.id 85 (nodeCells x (lastAd A (ring c)) (headAd M (ring c))) := Blk.chg (w := w3.drew) hx3 hc4 (hx3.ne_map hm3)
  have HR3 := Lib.hid hr3
  have HM3 := Lib.hid hm3
  have HX3 := Lib.hid hx3
  have HC4 := Lib.hid hc4
  clear hdel hs4 hl hr3 hm3 hx3 hc4
  go_wp2_with fail
  go_region_held3 (fun w' => w'.cell? ⟨c, 7, none⟩ = some (.map (some m)) ∧ w'.cell? ⟨x.id, 0, none⟩ = some (.int .i64 x.file) ∧ w'.cell? ⟨x.id, 1, none⟩ = some (.int .i64 x.blk))
    (first | (go_keep; done) | (go_split_ands; refine ⟨hr4.blk.cell 7, hx4.cell 0, hx4.cell 1⟩)) (fail)
  have hb4 : BudAt w4 g B := ((H.out.bud.chg hc3 HNG.out).chg (w' := w3.drew) (S := fun _ => False) (by ((repeat (first | exact Chg.refl _ _ | assumption | refine Chg.drewN ?_ _ | refine Chg.drew ?_ | refine Chg.alloc ?_ _ | refine Chg.setCell ?_ (by simp) _)))) (by simp)).chg HC4.out (fun e => HGM.out e)
  have c0 := hr4.blk.cell 0
  have x2 := hx4.cell 2
  simp [nodeCells, cacheCells, ptr] at c0 x2
  have hcost : costOf x = 64 + (x.data.size : Int) := rfl
  have hrel := fun W => bud_release g B 1 (costOf x) W
  rw [hcost] at hrel
  have HREL := Lib.hid hrel
  have HB4 := Lib.hid hb4
  have hds : x.data.size ≤ 9223372036854775000 := by omega
  have hcl : c < w4.heap.size := hr4.blk.lt
  have hxl : x.id < w4.heap.size := hx4.lt
  have hcg : ¬ c = g := fun e => HB4.out.blk.ne_ hr4.blk (by decide) e.symm
  have hxg : ¬ x.id = g := hx4.ne_ HB4.out.blk (by decide)
  have HR4 := Lib.hid hr4
  clear c7 x0 x1 hdel' hr4 hx4 hrel hb4 hcost
  go_wp2_with fail
  go_region_held3 (fun w' => w'.cell? ⟨c, 0, none⟩ = some (.pointer (some ⟨g, 0, none⟩)) ∧ w'.cell? ⟨x.id, 2, none⟩ = some (.string x.data))
    (first | (go_keep; done) | (go_split_ands; refine ⟨?_, ?_⟩ <;> (first | (rw [hc6.cell hcl hcg]; assumption) | (rw [hc6.cell hxl hxg]; assumption))))
    (first
      | (go_at_call 31; refine (cache_cost _ hds _).mono ?_; rintro e w' ⟨rfl, rfl⟩)
      | (go_at_call 23; refine (HREL.out _ (HB4.out.chg (S := fun _ => False) (by ((repeat (first | exact Chg.refl _ _ | assumption | refine Chg.drewN ?_ _ | refine Chg.drew ?_ | refine Chg.alloc ?_ _ | refine Chg.setCell ?_ (by simp) _)))) (by simp))).mono ?_; rintro e w6 ⟨rfl, hb6, hc6⟩))
  go_wp2_with fail
  first | go_end0 | refine bodyPost_ret (results_none rfl _ _ _) rfl ?_
  have hB := Bud.release_b (B := B) (k := 64 + (x.data.size : Int)) (by omega) (by
    rw [H.out.tot, total_app]
    have := total_nonneg A
    have := total_nonneg M
    simp only [total, costOf]
    omega)
  have htot : (B.put 1 (B.b - (64 + (x.data.size : Int)))).b = total (A ++ M) := by
    rw [Bud.put_b, H.out.tot, total_app, total_app]
    simp only [total, costOf]
    omega
  have hc6' : Chg (fun k => k = g) w4 w6 := (Chg.drew (Chg.refl _ w4)).then hc6
  have hrest : RingAt w6 c g m (A ++ M) := HR4.out.chg (S := fun k => k = g) hc6' hcg (fun y hy => by
    obtain ⟨_, _, hb⟩ := HR4.out.seg.blk hy
    exact hb.ne_ HB4.out.blk (by decide))
  rw [hB] at hb6
  refine ⟨rfl, ⟨hrest, ⟨_, _, hm4.chg hc6' (fun (e : m = g) => HGM.out e.symm), tells_del HT.out H.out.keys⟩, ?_, H.out.keys.del, fun y hy => H.out.good y ?_, ?_⟩, ?_⟩
  · show BudAt w6 g (B.release 1 (64 + (x.data.size : Int))).2
    rw [hB]; exact hb6
  · rcases List.mem_append.1 hy with hy | hy <;> simp [hy]
  · show (B.release 1 (64 + (x.data.size : Int))).2.b = _
    rw [hB]; exact htot
  · have c1 : Chg (FootC c g m (A ++ x :: M)) w w3 := hc3.mono fun k _ h => foot_c h
    have c2 : Chg (FootC c g m (A ++ x :: M)) w w4 := (c1.drew).trans HC4.out fun k _ e => .inr (.inr (.inl e))
    exact (c2.drew).trans hc6 fun k _ e => .inr (.inl e)
end Go.Proofs.Ytafdgncjfiiekaa
