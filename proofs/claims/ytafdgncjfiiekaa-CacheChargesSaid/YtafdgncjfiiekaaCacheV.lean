/-
  The cache and the document's list side by side: what both are, and one step of both.
-/
import Derived.Test.YtafdgncjfiiekaaCacheU
import Derived.Test.YtafdgncjfiiekaaRec
namespace Go.Proofs.Ytafdgncjfiiekaa
open Go.RowKit
set_option linter.unusedVariables false
set_option linter.unusedSimpArgs false

structure Both (w : World) (c g m r rb : Nat) (v : Value) (L : List Node) (B : Bud) : Prop where
  ca : CacheAt w c g m L B
  ra : RCacheAt w r rb 0 v L B
def BFoot (c g m r rb : Nat) (v : Value) (L : List Node) (k : Nat) : Prop := FootC c g m L k ∨ RFoot r rb v k
def BStep (c g m r rb : Nat) (v : Value) (L : List Node) (w w' : World) (L' : List Node) (B' : Bud) : Prop :=
  ∃ v', Both w' c g m r rb v' L' B' ∧ Chg (BFoot c g m r rb v L) w w' ∧ ∀ k, k < w.heap.size → BFoot c g m r rb v' L' k → BFoot c g m r rb v L k
/-- The ids of L' are ids of L, or new ones. -/
def Ids (w : World) (L L' : List Node) : Prop := ∀ x ∈ L', (∃ y ∈ L, y.id = x.id) ∨ w.heap.size ≤ x.id

section
variable {w w1 w2 w3 : World} {c g m r rb : Nat} {v v1 : Value} {L L' : List Node} {B B' : Bud}
theorem Both.lts (h : Both w c g m r rb v L B) : ∀ k, BFoot c g m r rb v L k → k < w.heap.size := by
  rintro k (e | e)
  · exact h.ca.foot_lt e
  · exact h.ra.lts k e
theorem Both.same (h : Both w c g m r rb v L B) (hc : Chg (fun _ => False) w w1) : Both w1 c g m r rb v L B := ⟨h.ca.same hc, h.ra.same hc⟩
theorem Both.apart (h : Both w c g m r rb v L B) : ∀ k, FootC c g m L k → ¬ RFoot r rb v k := by
  obtain ⟨n, f, hm, _⟩ := h.ca.map
  rintro k hk hr
  have hty : ∃ t cs, Blk w k t cs ∧ (t = 65 ∨ t = 80 ∨ t = 95) := by
    rcases hr with rfl | rfl | e
    · exact ⟨_, _, h.ra.blk, .inl rfl⟩
    · exact ⟨_, _, h.ra.bud.blk, .inr (.inl rfl)⟩
    · obtain ⟨cs, hb⟩ := own_typed h.ra.own e
      exact ⟨_, _, hb, .inr (.inr rfl)⟩
  obtain ⟨t, cs, hb, ht⟩ := hty
  rcases hk with rfl | rfl | rfl | ⟨y, hy, rfl⟩
  · exact hb.ne_ h.ca.ring.blk (by rcases ht with rfl | rfl | rfl <;> decide) rfl
  · exact hb.ne_ h.ca.bud.blk (by rcases ht with rfl | rfl | rfl <;> decide) rfl
  · exact hb.ne_map hm rfl
  · obtain ⟨_, _, hy'⟩ := h.ca.ring.seg.blk hy
    exact hb.ne_ hy' (by rcases ht with rfl | rfl | rfl <;> decide) rfl
/-- Behind the program's call the document's list is as it was. -/
theorem Both.ref (h : Both w c g m r rb v L B) (hc : Chg (FootC c g m L) w w1) : RCacheAt w1 r rb 0 v L B := h.ra.chg hc fun k hr hf => h.apart k hf hr
theorem Both.step (h : Both w c g m r rb v L B) (h1 : CacheAt w1 c g m L' B') (hc : Chg (FootC c g m L) w w1) (hi : Ids w L L') (h2 : RStep r rb v w1 w2 L' B') : BStep c g m r rb v L w w2 L' B' := by
  obtain ⟨v', hR, hc2, hv'⟩ := h2
  have h1' : Both w1 c g m r rb v L B → True := fun _ => trivial
  have hap : ∀ k, FootC c g m L' k → ¬ RFoot r rb v k := by
    intro k hk hr
    have hrl := h.ra.lts k hr
    rcases hk with e | e | e | ⟨x, hx, e⟩
    · exact h.apart k (.inl e) hr
    · exact h.apart k (.inr (.inl e)) hr
    · exact h.apart k (.inr (.inr (.inl e))) hr
    · rcases hi x hx with ⟨y, hy, e'⟩ | e'
      · exact h.apart k (.inr (.inr (.inr ⟨y, hy, e'.trans e⟩))) hr
      · omega
  refine ⟨v', ⟨h1.chg hc2 hap, hR⟩, (hc.mono fun k _ e => .inl e).trans hc2 (fun k _ e => .inr e), ?_⟩
  rintro k hk (e | e)
  · rcases e with e | e | e | ⟨x, hx, e⟩
    · exact .inl (.inl e)
    · exact .inl (.inr (.inl e))
    · exact .inl (.inr (.inr (.inl e)))
    · rcases hi x hx with ⟨y, hy, e'⟩ | e'
      · exact .inl (.inr (.inr (.inr ⟨y, hy, e'.trans e⟩)))
      · omega
  · rcases e with e | e | e
    · exact .inr (.inl e)
    · exact .inr (.inr (.inl e))
    · exact .inr (.inr (.inr (hv' k (Nat.lt_of_lt_of_le hk hc.size) e)))
theorem BStep.first (hc : Chg (fun _ => False) w w1) (h : BStep c g m r rb v L w1 w2 L' B') : BStep c g m r rb v L w w2 L' B' := by
  obtain ⟨v', hB, hc2, hv⟩ := h
  exact ⟨v', hB, (hc.mono (by simp)).trans hc2 (fun _ _ e => e), fun k hk => hv k (Nat.lt_of_lt_of_le hk hc.size)⟩
theorem BStep.last (h : BStep c g m r rb v L w w1 L' B') (hc : Chg (fun _ => False) w1 w2) : BStep c g m r rb v L w w2 L' B' := by
  obtain ⟨v', hB, hc2, hv⟩ := h
  exact ⟨v', hB.same hc, hc2.trans hc (by simp), hv⟩
theorem Ids.first (h : Ids w1 L L') (hc : Chg (fun _ => False) w w1) : Ids w L L' := fun x hx => (h x hx).imp id fun e => Nat.le_trans hc.size e
end
theorem ids_sub {w : World} {L L' : List Node} (h : ∀ x ∈ L', x ∈ L) : Ids w L L' := fun x hx => .inl ⟨x, h x hx, rfl⟩
theorem ids_get (w : World) (L : List Node) (f b : Int) : Ids w L (getM L f b).2.2 := by
  unfold getM
  cases hc : cut f b L with
  | none => exact ids_sub fun x hx => hx
  | some t =>
    obtain ⟨A, x, M⟩ := t
    obtain ⟨rfl, _⟩ := cut_some hc
    exact ids_sub fun y hy => by simp at hy ⊢; rcases hy with h | h | h <;> simp [h]
theorem ids_pin (w : World) (L : List Node) (f b d : Int) : Ids w L (pinM L f b d).2 := by
  unfold pinM
  cases hc : cut f b L with
  | none => exact ids_sub fun x hx => hx
  | some t =>
    obtain ⟨A, x, M⟩ := t
    obtain ⟨rfl, _⟩ := cut_some hc
    simp only
    split
    · exact ids_sub fun x hx => hx
    · intro y hy
      simp only [List.mem_append, List.mem_cons] at hy
      rcases hy with h | h | h
      · exact .inl ⟨y, by simp [h], rfl⟩
      · exact .inl ⟨x, by simp, by rw [h]⟩
      · exact .inl ⟨y, by simp [h], rfl⟩
theorem put_ids' (L : List Node) (B : Bud) (f b : Int) (s : ByteArray) (i : Nat) : ∀ x ∈ (putM L B f b s i).2.1, x ∈ L ∨ x = ⟨i, f, b, s, 0⟩ := by
  intro x hx
  unfold putM at hx
  split at hx
  · exact .inl hx
  · split at hx
    · rcases List.mem_append.1 hx with h | h
      · exact .inl ((shrink_sub _ _ _).subset h)
      · exact .inr (by simpa using h)
    · exact .inl hx
/-- No block is pinned more than p times. -/
def Pins (p : Nat) (L : List Node) : Prop := ∀ x ∈ L, 0 ≤ x.pins ∧ x.pins ≤ p
theorem Pins.sub {p : Nat} {L L' : List Node} (h : Pins p L) (hs : ∀ x ∈ L', x ∈ L) : Pins (p + 1) L' := fun x hx => by
  obtain ⟨a, b⟩ := h x (hs x hx)
  exact ⟨a, by omega⟩
theorem Pins.get {p : Nat} {L : List Node} (h : Pins p L) (f b : Int) : Pins (p + 1) (getM L f b).2.2 := by
  unfold getM
  cases hc : cut f b L with
  | none => exact h.sub fun x hx => hx
  | some t =>
    obtain ⟨A, x, M⟩ := t
    obtain ⟨rfl, _⟩ := cut_some hc
    exact h.sub fun y hy => by simp at hy ⊢; rcases hy with h | h | h <;> simp [h]
theorem Pins.pin {p : Nat} {L : List Node} (h : Pins p L) (f b d : Int) (hd : d ≤ 1) : Pins (p + 1) (pinM L f b d).2 := by
  unfold pinM
  cases hc : cut f b L with
  | none => exact h.sub fun x hx => hx
  | some t =>
    obtain ⟨A, x, M⟩ := t
    obtain ⟨rfl, _⟩ := cut_some hc
    simp only
    split
    · exact h.sub fun x hx => hx
    · intro y hy
      simp only [List.mem_append, List.mem_cons] at hy
      rcases hy with e | e | e
      · obtain ⟨a, b⟩ := h y (by simp [e]); exact ⟨a, by omega⟩
      · obtain ⟨a, b⟩ := h x (by simp)
        rw [e]
        exact ⟨by simp only; omega, by simp only; omega⟩
      · obtain ⟨a, b⟩ := h y (by simp [e]); exact ⟨a, by omega⟩
theorem Pins.put {p : Nat} {L : List Node} (h : Pins p L) (B : Bud) (f b : Int) (s : ByteArray) (i : Nat) : Pins (p + 1) (putM L B f b s i).2.1 := by
  intro x hx
  rcases put_ids' L B f b s i x hx with e | e
  · obtain ⟨a, b⟩ := h x e; exact ⟨a, by omega⟩
  · rw [e]; exact ⟨by simp, by simp; omega⟩

/-- What a call with the key (f, k) and the data s may leave: blocks that were there, or a new one. -/
def Comes (L L' : List Node) (f k : Int) (s : ByteArray) : Prop := ∀ x ∈ L', (∃ y ∈ L, y.file = x.file ∧ y.blk = x.blk ∧ y.data = x.data) ∨ (x.file = f ∧ x.blk = k ∧ x.data = s ∧ hasKey L f k = false)
theorem comes_sub {L L' : List Node} (f k : Int) (s : ByteArray) (h : ∀ x ∈ L', x ∈ L) : Comes L L' f k s := fun x hx => .inl ⟨x, h x hx, rfl, rfl, rfl⟩
theorem comes_get (L : List Node) (f b : Int) (s : ByteArray) : Comes L (getM L f b).2.2 f b s := by
  unfold getM
  cases hc : cut f b L with
  | none => exact comes_sub f b s fun x hx => hx
  | some t =>
    obtain ⟨A, x, M⟩ := t
    obtain ⟨rfl, _⟩ := cut_some hc
    exact comes_sub f b s fun y hy => by simp at hy ⊢; rcases hy with h | h | h <;> simp [h]
theorem comes_pin (L : List Node) (f b d : Int) (s : ByteArray) : Comes L (pinM L f b d).2 f b s := by
  unfold pinM
  cases hc : cut f b L with
  | none => exact comes_sub f b s fun x hx => hx
  | some t =>
    obtain ⟨A, x, M⟩ := t
    obtain ⟨rfl, _⟩ := cut_some hc
    simp only
    split
    · exact comes_sub f b s fun x hx => hx
    · intro y hy
      simp only [List.mem_append, List.mem_cons] at hy
      rcases hy with h | h | h
      · exact .inl ⟨y, by simp [h], rfl, rfl, rfl⟩
      · exact .inl ⟨x, by simp, by rw [h], by rw [h], by rw [h]⟩
      · exact .inl ⟨y, by simp [h], rfl, rfl, rfl⟩
theorem comes_put (L : List Node) (B : Bud) (f b : Int) (s : ByteArray) (i : Nat) : Comes L (putM L B f b s i).2.1 f b s := by
  unfold putM
  cases hk : hasKey L f b with
  | true => exact comes_sub f b s fun x hx => by simpa using hx
  | false =>
    rw [if_neg (by simp)]
    split
    · intro x hx
      rcases List.mem_append.1 hx with h | h
      · exact .inl ⟨x, (shrink_sub _ _ _).subset h, rfl, rfl, rfl⟩
      · simp at h; subst h; exact .inr ⟨rfl, rfl, rfl, hk⟩
    · exact comes_sub f b s fun x hx => hx
theorem put_l (B : Bud) (k n : Int) : (B.put k n).l = B.l := by
  unfold Bud.put
  simp only
  repeat' split
  all_goals rfl
theorem release_l (B : Bud) (k n : Int) : (B.release k n).2.l = B.l := by
  unfold Bud.release
  repeat' split
  all_goals first | rfl | exact put_l _ _ _
theorem reserve_l (B : Bud) (k n : Int) : (B.reserve k n).2.l = B.l := by
  unfold Bud.reserve
  repeat' split
  all_goals first | rfl | exact put_l _ _ _
theorem change_l (B : Bud) (k n : Int) : (B.change k n).2.l = B.l := by
  unfold Bud.change
  repeat' split
  all_goals first | rfl | exact put_l _ _ _
theorem bdrop_l : ∀ (E : List Node) (B : Bud), (bdrop B E).l = B.l
  | [], _ => rfl
  | x :: xs, B => by
    have := bdrop_l xs (B.release 1 (costOf x)).2
    rw [release_l] at this
    exact this
theorem shrink_l (L : List Node) (B : Bud) (n : Int) : (shrink L B n).2.2.l = B.l := by
  unfold shrink
  split
  · rfl
  · exact bdrop_l _ _
theorem putM_l (L : List Node) (B : Bud) (f b : Int) (s : ByteArray) (i : Nat) : (putM L B f b s i).2.2.l = B.l := by
  unfold putM
  split
  · rfl
  · split
    · simp only
      rw [reserve_l]
      exact shrink_l _ _ _
    · rfl

def ActPost (w : World) (c g m r rb : Nat) (v : Value) (L : List Node) (B : Bud) (p : Nat) (f k : Int) (s : ByteArray) (e : Ending) (w' : World) : Prop :=
  e = .returned (.bool true) ∧ ∃ L' B', BStep c g m r rb v L w w' L' B' ∧ Pins (p + 1) L' ∧ B'.l = B.l ∧ Comes L L' f k s
end Go.Proofs.Ytafdgncjfiiekaa
