/-
  The ring of a cache in memory: a list of nodes, the one used longest ago first. Plain lemmas on memory; no program's text.
-/
import Derived.Test.YtafdgncjfiiekaaBase
namespace Go.Proofs.Ytafdgncjfiiekaa
open Go.RowKit
set_option linter.unusedVariables false

/-- A block that is kept: where it lies, its key, its data, its pins. -/
structure Node where
  id : Nat
  file : Int
  blk : Int
  data : ByteArray
  pins : Int

def nad (x : Node) : Addr := ⟨x.id, 0, none⟩
def ptr (a : Addr) : Value := .pointer (some a)
def nodeCells (x : Node) (p q : Addr) : Array Value := #[.int .i64 x.file, .int .i64 x.blk, .string x.data, .int .i64 x.pins, ptr p, ptr q]
def headAd : List Node → Addr → Addr
  | [], q => q
  | x :: _, _ => nad x
def lastAd : List Node → Addr → Addr
  | [], p => p
  | x :: xs, _ => lastAd xs (nad x)
/-- The nodes L lie in memory, p ahead of them, q behind. -/
def Seg (w : World) : Addr → List Node → Addr → Prop
  | _, [], _ => True
  | p, x :: xs, q => Blk w x.id 85 (nodeCells x p (headAd xs q)) ∧ Seg w (nad x) xs q

theorem lastAd_snoc (L : List Node) (x : Node) (p : Addr) : lastAd (L ++ [x]) p = nad x := by
  induction L generalizing p with
  | nil => rfl
  | cons y ys ih => exact ih _
theorem lastAd_app (L M : List Node) (p : Addr) : lastAd (L ++ M) p = lastAd M (lastAd L p) := by
  induction L generalizing p with
  | nil => rfl
  | cons y ys ih => exact ih _
theorem headAd_app (L M : List Node) (q : Addr) : headAd (L ++ M) q = headAd L (headAd M q) := by
  cases L <;> rfl

section
variable {w w' : World} {L M : List Node} {p q : Addr} {x : Node}
theorem Seg.app : ∀ {L : List Node} {p : Addr}, Seg w p (L ++ M) q ↔ Seg w p L (headAd M q) ∧ Seg w (lastAd L p) M q
  | [], p => by simp [Seg, lastAd]
  | y :: ys, p => by
    simp only [List.cons_append, Seg, lastAd, headAd_app, Seg.app (L := ys), and_assoc]
theorem Seg.chg {S : Nat → Prop} (hc : Chg S w w') : ∀ {L : List Node} {p : Addr}, (∀ x ∈ L, ¬ S x.id) → Seg w p L q → Seg w' p L q
  | [], _, _, _ => trivial
  | y :: ys, _, hS, h => ⟨h.1.chg hc (hS y (by simp)), Seg.chg hc (fun x hx => hS x (by simp [hx])) h.2⟩
theorem Seg.far {a : Addr} (u : Value) : ∀ {L : List Node} {p : Addr}, (∀ x ∈ L, x.id ≠ a.block) → Seg w p L q → Seg (w.setCell a u) p L q
  | [], _, _, _ => trivial
  | y :: ys, _, hS, h => ⟨h.1.far (hS y (by simp)) u, Seg.far u (fun x hx => hS x (by simp [hx])) h.2⟩
theorem Seg.at_ (h : Seg w p (L ++ x :: M) q) : Blk w x.id 85 (nodeCells x (lastAd L p) (headAd M q)) := (Seg.app.1 h).2.1
theorem Seg.lt (h : Seg w p L q) {y : Node} (hy : y ∈ L) : y.id < w.heap.size := by
  obtain ⟨A, B, rfl⟩ := List.append_of_mem hy
  exact h.at_.lt
theorem Seg.blk (h : Seg w p L q) {y : Node} (hy : y ∈ L) : ∃ a b, Blk w y.id 85 (nodeCells y a b) := by
  obtain ⟨A, B, rfl⟩ := List.append_of_mem hy
  exact ⟨_, _, h.at_⟩

/-- The last node's next is another address. -/
theorem Seg.setNext {y : Node} (h : Seg w p (L ++ [y]) q) (hd : ∀ x ∈ L, x.id ≠ y.id) (q' : Addr) : Seg (w.setCell ⟨y.id, 5, none⟩ (ptr q')) p (L ++ [y]) q' := by
  obtain ⟨h1, h2, _⟩ := Seg.app.1 h
  refine Seg.app.2 ⟨Seg.far _ hd h1, ?_, trivial⟩
  have := h2.set_ 5 (ptr q')
  simpa [nodeCells, headAd] using this
/-- The first node's elder is another address. -/
theorem Seg.setElder {y : Node} (h : Seg w p (y :: M) q) (hd : ∀ x ∈ M, x.id ≠ y.id) (p' : Addr) : Seg (w.setCell ⟨y.id, 4, none⟩ (ptr p')) p' (y :: M) q := by
  obtain ⟨h1, h2⟩ := h
  refine ⟨?_, Seg.far _ hd h2⟩
  have := h1.set_ 4 (ptr p')
  simpa [nodeCells] using this
end

/-- No two nodes lie at one place. -/
def Apart (L : List Node) : Prop := L.Pairwise fun a b => a.id ≠ b.id
theorem Apart.mid {L M : List Node} {x : Node} (h : Apart (L ++ x :: M)) : (∀ y ∈ L, y.id ≠ x.id) ∧ (∀ y ∈ M, y.id ≠ x.id) ∧ Apart L ∧ Apart M ∧ Apart (L ++ M) ∧ ∀ y ∈ L, ∀ z ∈ M, y.id ≠ z.id := by
  unfold Apart at *
  rw [List.pairwise_append] at h ⊢
  obtain ⟨h1, h2, h3⟩ := h
  rw [List.pairwise_cons] at h2
  refine ⟨fun y hy => h3 y hy x (by simp), fun y hy => (h2.1 y hy).symm, h1, h2.2, ⟨h1, h2.2, fun y hy z hz => h3 y hy z (by simp [hz])⟩, fun y hy z hz => h3 y hy z (by simp [hz])⟩
theorem Apart.snoc {L : List Node} {x : Node} (h : Apart L) (hx : ∀ y ∈ L, y.id ≠ x.id) : Apart (L ++ [x]) := by
  unfold Apart at *
  rw [List.pairwise_append]
  exact ⟨h, by simp, fun a ha b hb => by simp at hb; subst hb; exact hx a ha⟩

def ring (c : Nat) : Addr := ⟨c, 1, none⟩
def cacheCells (g m : Nat) (e n : Addr) : Array Value := #[ptr ⟨g, 0, none⟩, .int .i64 0, .int .i64 0, .string ⟨#[]⟩, .int .i64 0, ptr e, ptr n, .map (some m)]
/-- The cache at c, its budget at g, its map at m, and its ring. -/
structure RingAt (w : World) (c g m : Nat) (L : List Node) : Prop where
  blk : Blk w c 87 (cacheCells g m (lastAd L (ring c)) (headAd L (ring c)))
  seg : Seg w (ring c) L (ring c)
  apart : Apart L

section
variable {w w' : World} {c g m : Nat} {L M : List Node} {x : Node}
theorem RingAt.ne_ (h : RingAt w c g m L) {y : Node} (hy : y ∈ L) : y.id ≠ c := by
  obtain ⟨a, b, hb⟩ := h.seg.blk hy
  exact hb.ne_ h.blk (by decide)
theorem RingAt.chg {S : Nat → Prop} (h : RingAt w c g m L) (hc : Chg S w w') (hS : ¬ S c) (hL : ∀ x ∈ L, ¬ S x.id) : RingAt w' c g m L :=
  ⟨h.blk.chg hc hS, h.seg.chg hc hL, h.apart⟩
theorem RingAt.drewN (h : RingAt w c g m L) (n : Nat) : RingAt (w.drewN n) c g m L := h.chg (S := fun _ => False) ((Chg.refl _ _).drewN n) (by simp) (by simp)

/-- The place of the cell that names what stands behind an address; of the one that names what stands ahead. -/
def nextOf (a : Addr) : Addr := ⟨a.block, a.off + 5, none⟩
def elderOf (a : Addr) : Addr := ⟨a.block, a.off + 4, none⟩

/-- A node is taken out of the ring; its own cells stay as they were. -/
theorem RingAt.out (h : RingAt w c g m (L ++ x :: M)) :
    let p := lastAd L (ring c)
    let q := headAd M (ring c)
    let w' := (w.setCell (nextOf p) (ptr q)).setCell (elderOf q) (ptr p)
    RingAt w' c g m (L ++ M) ∧ Blk w' x.id 85 (nodeCells x p q) := by
  intro p q w'
  show RingAt ((w.setCell (nextOf p) (ptr q)).setCell (elderOf q) (ptr p)) c g m (L ++ M) ∧ Blk ((w.setCell (nextOf p) (ptr q)).setCell (elderOf q) (ptr p)) x.id _ _
  clear w'
  have hpd : p = lastAd L (ring c) := rfl
  have hqd : q = headAd M (ring c) := rfl
  clear_value p q
  obtain ⟨hLx, hMx, hL, hM, hLM, hd⟩ := h.apart.mid
  have hxc := h.ne_ (y := x) (by simp)
  have hLc : ∀ y ∈ L, y.id ≠ c := fun y hy => h.ne_ (by simp [hy])
  have hMc : ∀ y ∈ M, y.id ≠ c := fun y hy => h.ne_ (by simp [hy])
  obtain ⟨s1, s2, s3⟩ := Seg.app.1 h.seg
  have hb := h.blk
  rw [lastAd_app, headAd_app] at hb
  simp only [lastAd, headAd] at hb
  have s2' : Blk w x.id 85 (nodeCells x p q) := by rw [hpd, hqd]; exact s2
  -- the first store: the next of p
  have step1 : Blk (w.setCell (nextOf p) (ptr q)) c 87 (cacheCells g m (lastAd M (nad x)) (headAd L q)) ∧ Seg (w.setCell (nextOf p) (ptr q)) (ring c) L q ∧ Seg (w.setCell (nextOf p) (ptr q)) (nad x) M (ring c) ∧ Blk (w.setCell (nextOf p) (ptr q)) x.id 85 (nodeCells x p q) := by
    rcases List.eq_nil_or_concat L with rfl | ⟨L', y, rfl⟩
    · refine ⟨?_, trivial, Seg.far (a := nextOf p) _ (fun z hz => by rw [hpd]; exact hMc z hz) s3, Blk.far s2' (p := nextOf p) (by rw [hpd]; exact hxc) _⟩
      have := hb.set_ 6 (ptr q)
      simpa [cacheCells, headAd, lastAd, nextOf, ring, hpd] using this
    · simp only [List.concat_eq_append] at *
      have hp : p = nad y := by rw [hpd, lastAd_snoc]
      have hL' : ∀ z ∈ L', z.id ≠ y.id := by
        unfold Apart at hL
        rw [List.pairwise_append] at hL
        exact fun z hz => hL.2.2 z hz y (by simp)
      rw [hp]
      refine ⟨?_, Seg.setNext s1 hL' q, Seg.far _ (fun z hz => (hd y (by simp) z hz).symm) s3, ?_⟩
      · have h1 : headAd (L' ++ [y]) q = headAd (L' ++ [y]) (nad x) := by cases L' <;> rfl
        rw [h1]
        exact hb.far (by simpa [nextOf, nad] using (hLc y (by simp)).symm) _
      · rw [← hp]
        refine Blk.far s2' ?_ _
        rw [hp]
        exact (hLx y (by simp)).symm
  obtain ⟨b1, g1, g3, k1⟩ := step1
  generalize w.setCell (nextOf p) (ptr q) = w1 at *
  cases M with
  | nil =>
    have hq : q = ring c := hqd
    rw [hq] at g1 k1 b1 ⊢
    refine ⟨⟨?_, ?_, by simpa using hL⟩, k1.far hxc _⟩
    · have := b1.set_ 5 (ptr p)
      simpa [cacheCells, lastAd, elderOf, ring, hpd] using this
    · rw [List.append_nil]
      exact Seg.far _ (fun z hz => hLc z hz) g1
  | cons z M' =>
    have hq : q = nad z := hqd
    rw [hq] at g1 k1 b1 ⊢
    have hM' : ∀ u ∈ M', u.id ≠ z.id := by
      unfold Apart at hM
      rw [List.pairwise_cons] at hM
      exact fun u hu => (hM.1 u hu).symm
    refine ⟨⟨?_, ?_, hLM⟩, k1.far (by simpa [elderOf, nad] using (hMx z (by simp)).symm) _⟩
    · rw [lastAd_app, headAd_app]
      exact b1.far (by simpa [elderOf, nad] using (hMc z (by simp)).symm) _
    · refine Seg.app.2 ⟨Seg.far _ (fun u hu => hd u hu z (by simp)) g1, by rw [← hpd]; exact Seg.setElder g3 hM' p⟩

/-- A node that is in no ring is laid behind the last one. -/
theorem RingAt.last (h : RingAt w c g m L) {v4 v5 : Value} (hx : Blk w x.id 85 #[.int .i64 x.file, .int .i64 x.blk, .string x.data, .int .i64 x.pins, v4, v5]) (hd : ∀ y ∈ L, y.id ≠ x.id) :
    let e := lastAd L (ring c)
    RingAt ((((w.setCell ⟨x.id, 4, none⟩ (ptr e)).setCell ⟨x.id, 5, none⟩ (ptr (ring c))).setCell (nextOf e) (ptr (nad x))).setCell ⟨c, 5, none⟩ (ptr (nad x))) c g m (L ++ [x]) := by
  intro e
  have hed : e = lastAd L (ring c) := rfl
  clear_value e
  have hxc : x.id ≠ c := hx.ne_ h.blk (by decide)
  have k1 : Blk ((w.setCell ⟨x.id, 4, none⟩ (ptr e)).setCell ⟨x.id, 5, none⟩ (ptr (ring c))) x.id 85 (nodeCells x e (ring c)) := by
    have := (hx.set_ 4 (ptr e)).set_ 5 (ptr (ring c))
    simpa [nodeCells] using this
  have b1 := (h.blk.far (p := ⟨x.id, 4, none⟩) hxc.symm (ptr e)).far (p := ⟨x.id, 5, none⟩) hxc.symm (ptr (ring c))
  have g1 := Seg.far (a := ⟨x.id, 5, none⟩) (ptr (ring c)) hd (Seg.far (a := ⟨x.id, 4, none⟩) (ptr e) hd h.seg)
  have hLc : ∀ y ∈ L, y.id ≠ c := fun y hy => h.ne_ hy
  have hL := h.apart
  clear hx h
  generalize (w.setCell ⟨x.id, 4, none⟩ (ptr e)).setCell ⟨x.id, 5, none⟩ (ptr (ring c)) = w1 at *
  have step : Blk (w1.setCell (nextOf e) (ptr (nad x))) c 87 (cacheCells g m e (headAd L (nad x))) ∧ Seg (w1.setCell (nextOf e) (ptr (nad x))) (ring c) L (nad x) ∧ Blk (w1.setCell (nextOf e) (ptr (nad x))) x.id 85 (nodeCells x e (ring c)) := by
    rcases List.eq_nil_or_concat L with rfl | ⟨L', y, rfl⟩
    · refine ⟨?_, trivial, Blk.far k1 (p := nextOf e) (by rw [hed]; exact hxc) _⟩
      have := b1.set_ 6 (ptr (nad x))
      simpa [cacheCells, headAd, lastAd, nextOf, ring, hed] using this
    · simp only [List.concat_eq_append] at *
      have he : e = nad y := by rw [hed, lastAd_snoc]
      have hL' : ∀ z ∈ L', z.id ≠ y.id := by
        unfold Apart at hL
        rw [List.pairwise_append] at hL
        exact fun z hz => hL.2.2 z hz y (by simp)
      rw [he]
      refine ⟨?_, Seg.setNext g1 hL' _, ?_⟩
      · have h1 : headAd (L' ++ [y]) (nad x) = headAd (L' ++ [y]) (ring c) := by cases L' <;> rfl
        rw [h1, ← he]
        rw [← hed] at b1
        refine Blk.far b1 ?_ _
        rw [he]
        exact (hLc y (by simp)).symm
      · rw [← he]
        refine Blk.far k1 ?_ _
        rw [he]
        exact (hd y (by simp)).symm
  obtain ⟨b2, g2, k2⟩ := step
  generalize w1.setCell (nextOf e) (ptr (nad x)) = w2 at *
  refine ⟨?_, ?_, Apart.snoc hL hd⟩
  · have := b2.set_ 5 (ptr (nad x))
    rw [lastAd_snoc, headAd_app]
    simpa [cacheCells, headAd] using this
  · refine Seg.app.2 ⟨Seg.far _ (fun z hz => hLc z hz) g2, ?_, trivial⟩
    rw [← hed]
    exact Blk.far k2 (p := ⟨c, 5, none⟩) hxc _
end
end Go.Proofs.Ytafdgncjfiiekaa
