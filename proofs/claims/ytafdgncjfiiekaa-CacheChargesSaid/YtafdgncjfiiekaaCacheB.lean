/-
  The cache in memory, whole; contracts of out, last, find, Get, Pin, Unpin.
-/
import Derived.Test.YtafdgncjfiiekaaCacheA
import Derived.Test.YtafdgncjfiiekaaCacheS
import Derived.Deep.DeepMust
import Derived.DeepKeys4
namespace Go.Proofs.Ytafdgncjfiiekaa
open Go.RowKit
set_option linter.unusedVariables false
set_option linter.unusedSimpArgs false

/-- The blocks of a ring. -/
def Foot (c : Nat) (L : List Node) (k : Nat) : Prop := k = c ∨ ∃ y ∈ L, y.id = k

theorem lastAd_form (c : Nat) (L : List Node) : ∃ b o, lastAd L (ring c) = ⟨b, o, none⟩ ∧ (b = c ∧ o = 1 ∨ ∃ y ∈ L, b = y.id ∧ o = 0) := by
  rcases List.eq_nil_or_concat L with rfl | ⟨L', y, rfl⟩
  · exact ⟨c, 1, rfl, .inl ⟨rfl, rfl⟩⟩
  · exact ⟨y.id, 0, by rw [List.concat_eq_append, lastAd_snoc]; rfl, .inr ⟨y, by simp, rfl, rfl⟩⟩
theorem headAd_form (c : Nat) (L : List Node) : ∃ b o, headAd L (ring c) = ⟨b, o, none⟩ ∧ (b = c ∧ o = 1 ∨ ∃ y ∈ L, b = y.id ∧ o = 0) := by
  cases L with
  | nil => exact ⟨c, 1, rfl, .inl ⟨rfl, rfl⟩⟩
  | cons y ys => exact ⟨y.id, 0, rfl, .inr ⟨y, by simp, rfl, rfl⟩⟩

section
variable {w w' : World} {c g m : Nat} {L M : List Node} {x : Node}
theorem RingAt.next_cell (h : RingAt w c g m L) {b o : Nat} (hf : b = c ∧ o = 1 ∨ ∃ y ∈ L, b = y.id ∧ o = 0) : (∃ v, w.cell? ⟨b, o + 5, none⟩ = some v) ∧ w.frozen? ⟨b, o + 5, none⟩ = false := by
  rcases hf with ⟨rfl, rfl⟩ | ⟨y, hy, rfl, rfl⟩
  · exact ⟨⟨_, h.blk.cell 6⟩, h.blk.frozen _⟩
  · obtain ⟨_, _, hb⟩ := h.seg.blk hy
    exact ⟨⟨_, hb.cell 5⟩, hb.frozen _⟩
theorem RingAt.elder_cell (h : RingAt w c g m L) {b o : Nat} (hf : b = c ∧ o = 1 ∨ ∃ y ∈ L, b = y.id ∧ o = 0) : (∃ v, w.cell? ⟨b, o + 4, none⟩ = some v) ∧ w.frozen? ⟨b, o + 4, none⟩ = false := by
  rcases hf with ⟨rfl, rfl⟩ | ⟨y, hy, rfl, rfl⟩
  · exact ⟨⟨_, h.blk.cell 5⟩, h.blk.frozen _⟩
  · obtain ⟨_, _, hb⟩ := h.seg.blk hy
    exact ⟨⟨_, hb.cell 4⟩, hb.frozen _⟩
end

theorem cache_out (c g m : Nat) (L M : List Node) (x : Node) (w : World) (h : RingAt w c g m (L ++ x :: M)) :
    Calls Try.prog 48 #[.pointer (some ⟨x.id, 0, none⟩)] w fun e w' => e = .returned (.tuple #[]) ∧ RingAt w' c g m (L ++ M) ∧ Blk w' x.id 85 (nodeCells x (lastAd L (ring c)) (headAd M (ring c))) ∧ Chg (Foot c (L ++ x :: M)) w w' := by
  have hout := h.out
  have hx := h.seg.at_
  obtain ⟨pb, po, hp, fp⟩ := lastAd_form c L
  obtain ⟨qb, qo, hq, fq⟩ := headAd_form c M
  have fp' : pb = c ∧ po = 1 ∨ ∃ y ∈ L ++ x :: M, pb = y.id ∧ po = 0 := fp.imp id fun ⟨y, hy, e⟩ => ⟨y, by simp [hy], e⟩
  have fq' : qb = c ∧ qo = 1 ∨ ∃ y ∈ L ++ x :: M, qb = y.id ∧ qo = 0 := fq.imp id fun ⟨y, hy, e⟩ => ⟨y, by simp [hy], e⟩
  obtain ⟨⟨vp, cp⟩, zp⟩ := h.next_cell fp'
  obtain ⟨⟨vq, cq⟩, zq⟩ := h.elder_cell fq'
  simp only [hp, hq, nextOf, elderOf, ptr] at hout hx
  have h4 := hx.cell 4
  have h5 := hx.cell 5
  simp [nodeCells, ptr] at h4 h5
  refine (cache_out_raw x.id pb po qb qo vp vq w h4 h5 cp cq zp zq ?_).mono ?_
  · rintro ⟨rfl, he⟩
    have : po = 0 ∨ po = 1 := by rcases fp with ⟨_, h⟩ | ⟨_, _, _, h⟩ <;> omega
    have : qo = 0 ∨ qo = 1 := by rcases fq with ⟨_, h⟩ | ⟨_, _, _, h⟩ <;> omega
    rcases fp' with ⟨rfl, hpo⟩ | ⟨y, hy, rfl, hpo⟩
    · omega
    · rcases fq' with ⟨hc, hqo⟩ | ⟨z, hz, hc, hqo⟩
      · exact h.ne_ hy hc
      · omega
  · rintro e w' ⟨rfl, n, rfl⟩
    refine ⟨rfl, hout.1.drewN n, by rw [hp, hq]; exact hout.2.drewN n, ?_⟩
    refine Chg.drewN (Chg.setCell (Chg.setCell (Chg.refl _ _) (fun _ => ?_) _) (fun _ => ?_) _) _
    · rcases fp' with ⟨rfl, _⟩ | ⟨y, hy, rfl, _⟩
      · exact .inl rfl
      · exact .inr ⟨y, hy, rfl⟩
    · rcases fq' with ⟨rfl, _⟩ | ⟨y, hy, rfl, _⟩
      · exact .inl rfl
      · exact .inr ⟨y, hy, rfl⟩

theorem cache_last (c g m : Nat) (L : List Node) (x : Node) (v4 v5 : Value) (w : World) (h : RingAt w c g m L) (hx : Blk w x.id 85 #[.int .i64 x.file, .int .i64 x.blk, .string x.data, .int .i64 x.pins, v4, v5]) (hd : ∀ y ∈ L, y.id ≠ x.id) :
    Calls Try.prog 46 #[.pointer (some ⟨c, 0, none⟩), .pointer (some ⟨x.id, 0, none⟩)] w fun e w' => e = .returned (.tuple #[]) ∧ RingAt w' c g m (L ++ [x]) ∧ Chg (Foot c (L ++ [x])) w w' := by
  have hlast := h.last hx hd
  obtain ⟨eb, eo, he, fe⟩ := lastAd_form c L
  obtain ⟨⟨vn, cn⟩, zn⟩ := h.next_cell fe
  have hc5 := h.blk.cell 5
  have hx4 := hx.cell 4
  have hx5 := hx.cell 5
  have hxc : x.id ≠ c := hx.ne_ h.blk (by decide)
  simp only [he] at hlast
  simp only [nextOf, ptr, nad, ring] at hlast
  simp [cacheCells, ptr, he] at hc5 hx4 hx5
  refine (cache_last_raw c x.id eb eo _ _ vn w hc5 hx4 hx5 (hx.frozen 4) (hx.frozen 5) cn zn (h.blk.frozen 5) hxc ?_ ?_).mono ?_
  · rcases fe with ⟨rfl, _⟩ | ⟨y, hy, rfl, _⟩
    · exact hxc
    · exact (hd y hy).symm
  · rintro ⟨rfl, rfl⟩
    rcases fe with ⟨_, h⟩ | ⟨y, hy, hc, _⟩
    · omega
    · exact h.ne_ hy hc.symm
  · rintro e w' ⟨rfl, n, rfl⟩
    refine ⟨rfl, hlast.drewN n, ?_⟩
    refine Chg.drewN (Chg.setCell (Chg.setCell (Chg.setCell (Chg.setCell (Chg.refl _ _) (fun _ => .inr ⟨x, by simp, rfl⟩) _) (fun _ => .inr ⟨x, by simp, rfl⟩) _) (fun _ => ?_) _) (fun _ => .inl rfl) _) _
    rcases fe with ⟨rfl, _⟩ | ⟨y, hy, rfl, _⟩
    · exact .inl rfl
    · exact .inr ⟨y, by simp [hy], rfl⟩

/-! ### The cache, whole -/
def keyV (f b : Int) : Value := .agg #[.int .i64 f, .int .i64 b]
def In64 (x : Int) : Prop := -9223372036854775808 ≤ x ∧ x ≤ 9223372036854775807
structure NodeOk (x : Node) : Prop where
  file : In64 x.file
  blk : In64 x.blk
  pins : 0 ≤ x.pins ∧ x.pins ≤ 1000000
  data : x.data.size ≤ 140737488355328
def costOf (x : Node) : Int := 64 + (x.data.size : Int)
def total : List Node → Int
  | [] => 0
  | x :: xs => costOf x + total xs
theorem total_app (L M : List Node) : total (L ++ M) = total L + total M := by
  induction L with
  | nil => simp [total]
  | cons x xs ih => simp [total, ih]; omega
theorem costOf_pos (x : Node) : 64 ≤ costOf x := by unfold costOf; omega
theorem total_nonneg (L : List Node) : 0 ≤ total L := by
  induction L with
  | nil => simp [total]
  | cons x xs ih => have := costOf_pos x; simp [total]; omega
def Tells (f : Value → Option Value) (L : List Node) : Prop := ∀ k v, f k = some v ↔ ∃ x ∈ L, k = keyV x.file x.blk ∧ v = .pointer (some (nad x))
def Distinct (L : List Node) : Prop := L.Pairwise fun a b => ¬ (a.file = b.file ∧ a.blk = b.blk)

structure CacheAt (w : World) (c g m : Nat) (L : List Node) (B : Bud) : Prop where
  ring : RingAt w c g m L
  map : ∃ n f, MapAt Try.prog 48 w m n f ∧ Tells f L
  bud : BudAt w g B
  keys : Distinct L
  good : ∀ x ∈ L, NodeOk x
  tot : B.b = total L
/-- All blocks of a cache. -/
def FootC (c g m : Nat) (L : List Node) (k : Nat) : Prop := k = c ∨ k = g ∨ k = m ∨ ∃ y ∈ L, y.id = k

theorem key_law : Go.Maps.Keyed Try.prog 48 := Go.Maps.Keyed.of_law (deep_law_laid (P := Try.prog) (by kernel_rfl) (m := 100) (by decide) (of_decide_eq_true (by kernel_rfl)) (by kernel_rfl) (by kernel_rfl))
theorem key_of (f b : Int) (hf : In64 f) (hb : In64 b) : ∃ l, keyOf Try.prog 48 (keyV f b) = some l := by
  have h1 : decide (1 ≤ Try.prog.types.size) = true := by kernel_rfl
  obtain ⟨n, hn⟩ := Nat.exists_eq_add_of_le (of_decide_eq_true h1)
  have e1 : Try.prog.keyType 48 = true := by kernel_rfl
  have c1 : Try.prog.cellsOf 48 = 2 := by kernel_rfl
  have c2 : Try.prog.cellsOf 2 = 1 := by kernel_rfl
  have c3 : Try.prog.cellsOf 3 = 1 := by kernel_rfl
  have w1 : (Lit.int .i64 f).wf = true := by
    unfold In64 at hf
    simp [Lit.wf, IntKind.min, IntKind.max, IntKind.signed, IntKind.bits]; omega
  have w2 : (Lit.int .i64 b).wf = true := by
    unfold In64 at hb
    simp [Lit.wf, IntKind.min, IntKind.max, IntKind.signed, IntKind.bits]; omega
  unfold keyOf keyV
  rw [Try.underlying48]
  simp only [e1, Value.formed, c1]
  rw [show Try.prog.types.size + 1 = (n + 1) + 1 from by omega]
  simp [Program.keyLits, Value.cells, Try.underlying48, Try.underlying2, Try.underlying3, c1, c2, c3, w1, w2]
theorem zero_pkept (w : World) : (zeroValue 83).run Try.prog w = .ok (.pointer none) w := by kernel_rfl
end Go.Proofs.Ytafdgncjfiiekaa
