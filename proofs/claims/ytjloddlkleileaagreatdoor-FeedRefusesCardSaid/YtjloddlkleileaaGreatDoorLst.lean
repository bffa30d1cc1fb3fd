/-
  A list whose elements lie one behind another in a block of their own: one set of laws for every element type (a 'Codec': how an element reads as cells). Plain laws over the program; no condition.
-/
import Derived.Test.YtjloddlkleileaaGreatDoorProg
import Derived.Test.YtjloddlkleileaaGreatDoorOwn
import Derived.Deep.RegionLaw
namespace Go.Proofs.YtjloddlkleileaaGreatDoor
open Go.RowKit
set_option linter.unusedVariables false
set_option linter.unusedSimpArgs false

theorem Blk.new1 (w : World) (o : Obj) (t : TypeId) (cs : Array Value) : Blk ((w.alloc o).alloc (.cells cs t)) (w.heap.size + 1) t cs := by
  have := Blk.new (w.alloc o) t cs
  simpa using this
theorem Blk.new2 (w : World) (o o' : Obj) (t : TypeId) (cs : Array Value) : Blk (((w.alloc o).alloc o').alloc (.cells cs t)) (w.heap.size + 2) t cs := by
  have := Blk.new ((w.alloc o).alloc o') t cs
  simpa using this
structure Codec (α : Type) where
  g : α → List Value
  k : Nat
  e : TypeId
  s : TypeId
  zero : Value
  bytes : Nat
structure Codec.Ok {α : Type} (C : Codec α) : Prop where
  len : ∀ x, (C.g x).length = C.k
  pos : 0 < C.k
  one : ∀ x, ∀ v ∈ C.g x, v.oneCell' = true
  und : Tryz.prog.underlying C.s = some (.slice C.e)
  info : (Tryz.prog.info? C.e).map (fun i => (i.zero, i.size, i.bytes)) = some (some C.zero, C.k, C.bytes)
  zsize : C.zero.cells.size = C.k
  small : C.bytes ≤ 128

/-- The slice value v is the list l. -/
def Lst {α : Type} (C : Codec α) (w : World) (v : Value) (l : List α) : Prop := Own w C.e C.k v l.length (l.flatMap C.g)

section
variable {α : Type} {C : Codec α} {w w' : World} {v : Value} {l : List α}
theorem Lst.nil (C : Codec α) (w : World) : Lst C w (.slice none 0 0) [] := Own.nil _ _ _
theorem Lst.chg {S : Nat → Prop} (h : Lst C w v l) (hc : Chg S w w') (hS : ∀ k, v.ownBlock = some k → ¬ S k) : Lst C w' v l := Own.chg h hc hS
theorem Lst.same (h : Lst C w v l) (hc : Chg (fun _ => False) w w') : Lst C w' v l := Own.same h hc
theorem Lst.typed (h : Lst C w v l) {k : Nat} (hk : v.ownBlock = some k) : ∃ cs, Blk w k C.e cs := Own.typed h hk
theorem Lst.lt (h : Lst C w v l) {k : Nat} (hk : v.ownBlock = some k) : k < w.heap.size := Own.lt h hk
theorem flat_at (hk : ∀ x, (C.g x).length = C.k) (A : List α) (x : α) (B : List α) (j : Nat) (y : Value) (hy : (C.g x)[j]? = some y) : ((A ++ x :: B).flatMap C.g)[A.length * C.k + j]? = some y := by
  have hlen : (A.flatMap C.g).length = A.length * C.k := by
    induction A with
    | nil => simp
    | cons a A ih => simp only [List.flatMap_cons, List.length_append, hk, ih, List.length_cons, Nat.add_mul, Nat.one_mul]; omega
  have hj : j < C.k := by
    have := (List.getElem?_eq_some_iff.1 hy).1
    rwa [hk] at this
  rw [List.flatMap_append, List.getElem?_append_right (by omega), hlen, Nat.add_sub_cancel_left, List.flatMap_cons, List.getElem?_append_left (by rw [hk]; exact hj)]
  exact hy
theorem flat_len (hk : ∀ x, (C.g x).length = C.k) (l : List α) : (l.flatMap C.g).length = l.length * C.k := by
  induction l with
  | nil => simp
  | cons a A ih => simp only [List.flatMap_cons, List.length_append, hk, ih, List.length_cons, Nat.add_mul, Nat.one_mul]; omega
theorem Lst.form (h : Lst C w v l) (hC : C.Ok) : ∃ a cap, v = .slice a l.length cap ∧ l.length ≤ cap ∧ l.length ≤ 9223372036854775807 ∧ ∀ A x B, l = A ++ x :: B → ∃ b, a = some ⟨b, 0, none⟩ ∧ b < w.heap.size ∧ v.ownBlock = some b ∧
    ∀ j y, (C.g x)[j]? = some y → w.cell? ⟨b, A.length * C.k + j, none⟩ = some y := by
  obtain ⟨a, cap, rfl, h1, h2, h3⟩ := Own.reads h
  refine ⟨a, cap, rfl, h1, h2, fun A x B hl => ?_⟩
  obtain ⟨b, rfl, hb, ho, hc⟩ := h3 (by rw [hl]; simp; omega)
  refine ⟨b, rfl, hb, ho, fun j y hy => hc _ _ ?_⟩
  rw [hl]
  exact flat_at hC.len A x B j y hy
/-- The first k of them, cut away from the rest. -/
theorem Lst.cut (h : Lst C w v l) (hC : C.Ok) {k : Nat} (hk : k ≤ l.length) : ∃ a cap, v = .slice a l.length cap ∧ Lst C w (.slice a k k) (l.take k) := by
  obtain ⟨a, cap, rfl, ho⟩ := Own.cut h hk
  refine ⟨a, cap, rfl, ?_⟩
  have e : (l.flatMap C.g).take (k * C.k) = (l.take k).flatMap C.g := by
    conv => lhs; rw [← List.take_append_drop k l, List.flatMap_append]
    rw [List.take_append_of_le_length (by rw [flat_len hC.len, List.length_take]; exact Nat.mul_le_mul_right _ (by omega)), List.take_of_length_le (by rw [flat_len hC.len, List.length_take]; exact Nat.mul_le_mul_right _ (by omega))]
  unfold Lst
  rw [List.length_take, Nat.min_eq_left hk, ← e]
  exact ho
/-- l[:k], the room behind it kept. -/
theorem Lst.cut_room (h : Lst C w v l) (hC : C.Ok) {k : Nat} (hk : k ≤ l.length) : ∃ a cap, v = .slice a l.length cap ∧ Lst C w (.slice a k cap) (l.take k) := by
  have e : (l.flatMap C.g).take (k * C.k) = (l.take k).flatMap C.g := by
    conv => lhs; rw [← List.take_append_drop k l, List.flatMap_append]
    rw [List.take_append_of_le_length (by rw [flat_len hC.len, List.length_take]; exact Nat.mul_le_mul_right _ (by omega)), List.take_of_length_le (by rw [flat_len hC.len, List.length_take]; exact Nat.mul_le_mul_right _ (by omega))]
  have hle : k * C.k ≤ l.length * C.k := Nat.mul_le_mul_right _ hk
  obtain ⟨hl, hr⟩ := h
  rcases hr with ⟨rfl, hn⟩ | ⟨g, cap, cur, rfl, hg, hn, hm, hcs, ht⟩
  · have hk0 : k = 0 := by omega
    subst hk0
    rw [hn]
    exact ⟨none, 0, rfl, by simp [Lst, Own]⟩
  · refine ⟨_, cap, rfl, ?_, .inr ⟨g, cap, cur, ?_, hg, ?_, hm, hcs, ?_⟩⟩
    · rw [flat_len hC.len, List.length_take]
    · rw [List.length_take, Nat.min_eq_left hk]
    · rw [List.length_take]; omega
    · rw [List.length_take, Nat.min_eq_left hk, ← e, ← ht, List.take_take, Nat.min_eq_left hle]
/-- A block known whole that is the list's cells, and nothing else: a composite literal's. -/
theorem Lst.of_block {g : Nat} {cs : Array Value} (hC : C.Ok) (hb : Blk w g C.e cs) (hcs : cs.toList = l.flatMap C.g) (hl : l.length ≤ 1000000) : Lst C w (.slice (some ⟨g, 0, none⟩) l.length l.length) l := by
  refine ⟨flat_len hC.len l, .inr ⟨g, l.length, cs, rfl, hb, Nat.le_refl _, by unfold maxLen; omega, ?_, ?_⟩⟩
  · rw [← Array.length_toList, hcs, flat_len hC.len]; exact Nat.le_refl _
  · rw [hcs, List.take_of_length_le (by rw [flat_len hC.len]; exact Nat.le_refl _)]
theorem chg_grown {row : Option Nat} (h : w.grownBy w' row) : Chg (fun k => row = some k) w w' :=
  ⟨h.os, h.tape, h.output, h.size, fun k hk hn => h.block k hk (fun e => hn e.symm)⟩

/-- A list in a field was appended to, and stored back. -/
theorem field_put {w0 w4 : World} {G i : Nat} {t : TypeId} {cs : Array Value} {ov v' : Value} {L' : List α} (hb : Blk w G t cs) (ht : t ≠ C.e) (hw : Chg (fun _ => False) w0 w) (hG : w0.heap.size ≤ G) (hk : ∀ k, ov.ownBlock = some k → w0.heap.size ≤ k) (hne : ov.ownBlock ≠ some G)
    (hO : Lst C w4 v' L') (hc : Chg (fun k => ov.ownBlock = some k) w w4) : Blk (w4.setCell ⟨G, i, none⟩ v') G t (cs.setIfInBounds i v') ∧ Lst C (w4.setCell ⟨G, i, none⟩ v') v' L' ∧ Chg (fun _ => False) w0 (w4.setCell ⟨G, i, none⟩ v') := by
  have hb4 := hb.chg hc hne
  have hset : Chg (fun k => k = G) w4 (w4.setCell ⟨G, i, none⟩ v') := Chg.setCell (S := fun k => k = G) (Chg.refl _ w4) (p := ⟨G, i, none⟩) (fun _ => rfl) v'
  refine ⟨hb4.set_ i v', hO.chg hset fun k hk' e => ?_, (hw.trans hc fun k hk' e => ?_).setCell ?_ _⟩
  · obtain ⟨cs', hb'⟩ := hO.typed hk'
    exact hb4.ne_ hb' ht e.symm
  · have := hk k e; omega
  · intro h; simp at h; omega
section
variable {a : Act} {Q : Exit → Act → World → Prop} {K : Act → World → Prop} {ops : Array Oper} {o : Oper} {rest : List Oper} {E : Prop}
theorem run_lst_app (hC : C.Ok) (W : World) (ty : TypeId) (L : List α) (v : Value) (p : α) (hv : Lst C W v L) (b : Nat) (hb : Blk W b C.e (C.g p).toArray) (hL : L.length ≤ 1000000000) :
    ∃ v' w', (Builtin.append_ #[C.s, C.s] ty #[v, .slice (some ⟨b, 0, none⟩) 1 1]).run Tryz.prog W = .ok v' w' ∧ Lst C w' v' (L ++ [p]) ∧ Chg (fun k => v.ownBlock = some k) W w' ∧ (∀ k, v'.ownBlock = some k → v.ownBlock = some k ∨ W.heap.size ≤ k) := by
  obtain ⟨i0, hi, hz0, hz1, hz2⟩ := info_parts hC.info
  have hs := hC.small
  obtain ⟨v', w', hr, hown, hg, hk⟩ := run_own_append (P := Tryz.prog) W C.s C.s ty C.e i0 C.zero C.k C.bytes hC.und hi hz0 hz1 hz2 hC.zsize v L.length (L.flatMap C.g) hv (.slice (some ⟨b, 0, none⟩) 1 1) 1 (C.g p)
    (Src.ofSlice W hC.und ⟨b, 0, none⟩ 1 1 _ (by rw [hC.len, Nat.one_mul]) (World.news_of_block (cs := (C.g p).toArray) (t := C.e) (fr := (0, 0)) hb) (hC.one p)) (by unfold maxLen; omega) (by
      have : (L.length + 1) * C.bytes ≤ 1000000001 * 128 := Nat.mul_le_mul (by omega) hs
      omega)
  refine ⟨v', w', hr, ?_, chg_grown hg, fun k hk' => ?_⟩
  · unfold Lst
    rw [List.flatMap_append, List.length_append, List.length_singleton]
    simpa using hown
  · rcases hk with e | e
    · exact .inl (by rw [← e]; exact hk')
    · rw [e] at hk'; injection hk' with hk'; right; omega
theorem wp_lst_app (hC : C.Ok) (W : World) (s x : Operand) (ho : o.op = .call { callee := .builtin .append, args := #[s, x], argTypes := #[C.s, C.s] }) (L : List α) (v : Value) (p : α) (hs : a.eval s = v) (hv : Lst C W v L)
    (b : Nat) (hx : a.eval x = .slice (some ⟨b, 0, none⟩) 1 1) (hL : L.length ≤ 1000000000) (hb : Blk W b C.e (C.g p).toArray)
    (h : ∀ v' w', Lst C w' v' (L ++ [p]) → Chg (fun k => v.ownBlock = some k) W w' → (∀ k, v'.ownBlock = some k → v.ownBlock = some k ∨ W.heap.size ≤ k) → K (a.put o.dst v') w') : Oper.wp Tryz.prog o a W K Q := by
  obtain ⟨v', w', hr, h2, h3, h4⟩ := run_lst_app hC W o.type L v p hv b hb hL
  unfold Oper.wp execOp
  simp only [ho, resolve, invoke, builtin, Sem.run_bind, Sem.run_pure, Result.andThen_ok, List.map_toArray, List.map_cons, List.map_nil, hs, hx, hr]
  exact h v' w' h2 h3 h4
/-- append(l, x), x in a new slice of one, outside a region that draws. -/
theorem wpList_lst_app (hC : C.Ok) (W : World) (hgd : o.guard = none) (s x : Operand) (ho : o.op = .call { callee := .builtin .append, args := #[s, x], argTypes := #[C.s, C.s] }) (L : List α) (v : Value) (p : α) (hs : a.eval s = v) (hv : Lst C W v L)
    (b : Nat) (hx : a.eval x = .slice (some ⟨b, 0, none⟩) 1 1) (hL : L.length ≤ 1000000000) (hb : Blk W b C.e (C.g p).toArray)
    (h : ∀ v' w', Lst C w' v' (L ++ [p]) → Chg (fun k => v.ownBlock = some k) W w' → (∀ k, v'.ownBlock = some k → v.ownBlock = some k ∨ W.heap.size ≤ k) → wpList Tryz.prog ops Q rest (a.put o.dst v') w') :
    wpList Tryz.prog ops Q (o :: rest) a W :=
  wpList_plain hgd fun _ hK => wp_lst_app hC _ s x ho L v p hs hv b hx hL hb fun v' w' h2 h3 h4 => hK _ _ (h v' w' h2 h3 h4)
/-- .. at a step of a region that draws its order. -/
theorem step_lst_app (hC : C.Ok) (W : World) (hgd : o.guard = none) (s x : Operand) (ho : o.op = .call { callee := .builtin .append, args := #[s, x], argTypes := #[C.s, C.s] }) (L : List α) (v : Value) (p : α) (hs : a.eval s = v) (hv : Lst C W v L)
    (b : Nat) (hx : a.eval x = .slice (some ⟨b, 0, none⟩) 1 1) (hL : L.length ≤ 1000000000) (hb : Blk W b C.e (C.g p).toArray)
    (h : ∀ v' w', Lst C w' v' (L ++ [p]) → Chg (fun k => v.ownBlock = some k) W w' → (∀ k, v'.ownBlock = some k → v.ownBlock = some k ∨ W.heap.size ≤ k) → K (a.put o.dst v') w') :
    if Region.wanted o (yielded ops a.tmps) = true then Oper.wp Tryz.prog o a W K Q else E := by
  have hw : Region.wanted o (yielded ops a.tmps) = true := by simp [Region.wanted, hgd]
  rw [if_pos hw]
  exact wp_lst_app hC W s x ho L v p hs hv b hx hL hb h
end
end
end Go.Proofs.YtjloddlkleileaaGreatDoor
