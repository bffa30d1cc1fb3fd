/-
  A slice that lies in a block of its own, from the block's head on, with room behind it that may be cut away ('s[:n:n]'); and append onto it, of a slice or of a string. Plain laws over any program; no condition.
-/
import Derived.Test.YtljabmkmngbhkaaGreatDoorZMg00
import Derived.Deep.AppendSrc
import Derived.Deep.AppendLies
namespace Go.Proofs.YtljabmkmngbhkaaGreatDoor
open Go.RowKit
set_option linter.unusedVariables false
set_option linter.unusedSimpArgs false

/-- The slice value v has n elements of type e, size cells each: the cells xs; they lie at the head of a block that nothing freezes. -/
def Own (w : World) (e : TypeId) (size : Nat) (v : Value) (n : Nat) (xs : List Value) : Prop :=
  xs.length = n * size ∧ ((v = .slice none 0 0 ∧ n = 0) ∨
    ∃ g cap cur, v = .slice (some ⟨g, 0, none⟩) n cap ∧ w.heap[g]? = some (.cells cur e (0, 0)) ∧ n ≤ cap ∧ cap ≤ maxLen ∧ cap * size ≤ cur.size ∧ cur.toList.take (n * size) = xs)

section
variable {w w' : World} {e : TypeId} {size : Nat} {v : Value} {n : Nat} {xs : List Value} {S : Nat → Prop}
theorem Own.nil (w : World) (e : TypeId) (size : Nat) : Own w e size (.slice none 0 0) 0 [] := ⟨by simp, .inl ⟨rfl, rfl⟩⟩
theorem Own.of_row {base : Nat} (h : w.ownsRow base e size v n xs) : Own w e size v n xs := by
  refine ⟨h.1, ?_⟩
  rcases h.2 with hn | ⟨g, cap, cur, h1, h2, h3, h4, h5, h6, h7⟩
  · exact .inl hn
  · exact .inr ⟨g, cap, cur, h1, h3, h4, h5, by omega, h7⟩
theorem Own.chg (h : Own w e size v n xs) (hc : Chg S w w') (hS : ∀ k, v.ownBlock = some k → ¬ S k) : Own w' e size v n xs := by
  refine ⟨h.1, ?_⟩
  rcases h.2 with hn | ⟨g, cap, cur, rfl, hg, rest⟩
  · exact .inl hn
  · exact .inr ⟨g, cap, cur, rfl, (hc.block g (show Blk w g _ _ from hg).lt (hS g rfl)).trans hg, rest⟩
theorem Own.same (h : Own w e size v n xs) (hc : Chg (fun _ => False) w w') : Own w' e size v n xs := h.chg hc (by simp)
theorem Own.typed (h : Own w e size v n xs) {k : Nat} (hk : v.ownBlock = some k) : ∃ cs, Blk w k e cs := by
  rcases h.2 with ⟨rfl, _⟩ | ⟨g, cap, cur, rfl, hg, rest⟩
  · simp [Value.ownBlock] at hk
  · simp [Value.ownBlock] at hk; subst hk; exact ⟨_, hg⟩
theorem Own.lt (h : Own w e size v n xs) {k : Nat} (hk : v.ownBlock = some k) : k < w.heap.size := by
  obtain ⟨cs, hb⟩ := h.typed hk
  exact hb.lt
/-- What it looks like, and how its cells are read. -/
theorem Own.form (h : Own w e size v n xs) : ∃ a cap, v = .slice a n cap ∧ n ≤ cap ∧ n ≤ 9223372036854775807 ∧ (a = none → n = 0 ∧ cap = 0) ∧ ∀ b, a = some b → b.off = 0 ∧ b.spot = none ∧ (Value.slice a n cap).ownBlock = some b.block := by
  rcases h.2 with ⟨rfl, hn⟩ | ⟨g, cap, cur, rfl, hg, hn, hm, hcs, ht⟩
  · subst hn
    exact ⟨none, 0, rfl, by omega, by omega, fun _ => ⟨rfl, rfl⟩, by simp⟩
  · unfold maxLen at hm
    exact ⟨_, cap, rfl, hn, by omega, by simp, by rintro b hb; cases hb; exact ⟨rfl, rfl, rfl⟩⟩
theorem Own.reads (h : Own w e size v n xs) : ∃ a cap, v = .slice a n cap ∧ n ≤ cap ∧ n ≤ 9223372036854775807 ∧ (0 < n → ∃ b, a = some ⟨b, 0, none⟩ ∧ b < w.heap.size ∧ v.ownBlock = some b ∧ ∀ i x, xs[i]? = some x → w.cell? ⟨b, i, none⟩ = some x) := by
  rcases h.2 with ⟨rfl, hn⟩ | ⟨g, cap, cur, rfl, hg, hn, hm, hcs, ht⟩
  · exact ⟨none, 0, by rw [hn], by omega, by omega, fun h => by omega⟩
  · unfold maxLen at hm
    refine ⟨_, cap, rfl, hn, by omega, fun _ => ⟨g, rfl, (show Blk w g _ _ from hg).lt, rfl, fun i x hx => ?_⟩⟩
    rw [cell_of_row w g i cur e (0, 0) hg, ← Array.getElem?_toList]
    have hi : i < xs.length := (List.getElem?_eq_some_iff.1 hx).1
    rw [← ht, List.getElem?_take] at hx
    rw [h.1] at hi
    rw [if_pos hi] at hx
    exact hx
theorem Own.frozen (h : Own w e size v n xs) {g : Nat} (hg : v.ownBlock = some g) (i : Nat) : w.frozen? ⟨g, i, none⟩ = false := by
  obtain ⟨cs, hb⟩ := h.typed hg
  exact hb.frozen i
/-- The first k elements, the rest cut away: s[:k:k]. -/
theorem Own.cut (h : Own w e size v n xs) {k : Nat} (hk : k ≤ n) : ∃ a cap, v = .slice a n cap ∧ Own w e size (.slice a k k) k (xs.take (k * size)) := by
  have hle : k * size ≤ n * size := Nat.mul_le_mul_right _ hk
  rcases h.2 with ⟨rfl, hn⟩ | ⟨g, cap, cur, rfl, hg, hn, hm, hcs, ht⟩
  · obtain rfl : k = 0 := by omega
    subst hn
    exact ⟨none, 0, rfl, by simp [Own]⟩
  · refine ⟨_, cap, rfl, ?_, .inr ⟨g, k, cur, rfl, hg, Nat.le_refl _, by omega, ?_, ?_⟩⟩
    · rw [List.length_take, h.1]; omega
    · have : k * size ≤ cap * size := Nat.mul_le_mul_right _ (by omega)
      omega
    · rw [← ht, List.take_take, Nat.min_eq_left hle]
end

section
variable {P : Program} {w : World}
theorem setCells_chg (g : Nat) : ∀ (news : List Value) (off : Nat) (w : World), Chg (fun k => k = g) w (w.setCells g off news) ∧ (w.setCells g off news).heap.size = w.heap.size
  | [], off, w => ⟨Chg.refl _ _, rfl⟩
  | u :: r, off, w => by
    obtain ⟨h1, h2⟩ := setCells_chg g r (off + 1) (w.setCell ⟨g, off, none⟩ u)
    refine ⟨Chg.then (Chg.setCell (S := fun k => k = g) (Chg.refl _ w) (p := ⟨g, off, none⟩) (fun _ => rfl) u) h1, ?_⟩
    show ((w.setCell ⟨g, off, none⟩ u).setCells g (off + 1) r).heap.size = _
    rw [h2]
    simp [World.setCell]
theorem take_set_succ (l : List Value) (off : Nat) (u : Value) (h : off < l.length) : (l.set off u).take (off + 1) = l.take off ++ [u] := by
  rw [List.take_add_one, List.getElem?_set_self (by simpa using h), List.take_set]
  rw [List.set_eq_of_length_le (by simp; omega)]
  rfl
theorem setCells_blk (g : Nat) (t : TypeId) : ∀ (news : List Value) (w : World) (cs : Array Value) (off : Nat), Blk w g t cs → off + news.length ≤ cs.size → ∃ cs', Blk (w.setCells g off news) g t cs' ∧ cs'.size = cs.size ∧ cs'.toList.take (off + news.length) = cs.toList.take off ++ news
  | [], w, cs, off, hb, hle => ⟨cs, hb, rfl, by simp⟩
  | u :: r, w, cs, off, hb, hle => by
    simp only [List.length_cons] at hle
    obtain ⟨cs', h1, h2, h3⟩ := setCells_blk g t r (w.setCell ⟨g, off, none⟩ u) (cs.setIfInBounds off u) (off + 1) (hb.set_ off u) (by simp; omega)
    refine ⟨cs', h1, by simpa using h2, ?_⟩
    rw [List.length_cons, show off + (r.length + 1) = off + 1 + r.length from by omega, h3, Array.toList_setIfInBounds, take_set_succ _ _ _ (by simp; omega)]
    simp

/-- append, of whatever yields m elements. -/
theorem run_own_append (w : World) (t tx ty e : TypeId) (i : TypeInfo) (z : Value) (size bytes : Nat) (ht : P.underlying t = some (.slice e)) (hi : P.info? e = some i) (hz : i.zero = some z)
    (hsize : i.size = size) (hby : i.bytes = bytes) (hzs : z.cells.size = size)
    (v : Value) (n : Nat) (xs : List Value) (hown : Own w e size v n xs) (x : Value) (m : Nat) (news : List Value) (hs : Src P size tx x m news w)
    (h63 : n + m ≤ maxLen) (hbytes : (n + m) * bytes ≤ 140737488355328) :
    ∃ v' w', (Builtin.append_ #[t, tx] ty #[v, x]).run P w = .ok v' w' ∧ Own w' e size v' (n + m) (xs ++ news) ∧ w.grownBy w' v.ownBlock ∧ (v'.ownBlock = v.ownBlock ∨ v'.ownBlock = some w.heap.size) := by
  subst hsize
  subst hby
  have hsmall : n + m ≤ 9223372036854775807 := by simp only [maxLen] at h63; omega
  have hl := hs.newsLen
  have hlen : (xs ++ news).length = (n + m) * i.size := by rw [List.length_append, hown.1, hl, Nat.add_mul]
  have grown : ∀ (old : Nat), old < n + m → ∀ (row : Option Nat),
      Own (w.drew.alloc (.cells ((xs ++ news).toArray ++ Builtin.zeroCells z.cells (grownCap w (n + m) old e - (n + m))) e)) e i.size
        (.slice (some ⟨w.heap.size, 0, none⟩) (n + m) (grownCap w (n + m) old e)) (n + m) (xs ++ news) ∧
      w.grownBy (w.drew.alloc (.cells ((xs ++ news).toArray ++ Builtin.zeroCells z.cells (grownCap w (n + m) old e - (n + m))) e)) row := by
    intro old ho row
    have hge := grownCap_ge w (n + m) old e
    have hcm : grownCap w (n + m) old e ≤ maxLen := grownCap_le_maxLen w (n + m) old e h63
    refine ⟨⟨hlen, .inr ⟨w.heap.size, _, _, rfl, heap_alloc_new w.drew _, hge, hcm, ?_, ?_⟩⟩, ⟨rfl, rfl, rfl, by simp, fun k hk _ => Below.heap_alloc w.drew _ k hk⟩⟩
    · simp only [Array.size_append, List.size_toArray, size_zeroCells, hzs, hlen, ← Nat.add_mul]
      exact Nat.mul_le_mul_right _ (by omega)
    · simp only [Array.toList_append]
      rw [← hlen]
      exact List.take_left
  rcases hown.2 with ⟨rfl, rfl⟩ | ⟨g, cap, cur, rfl, hg, hnc, hcm, hcs, htake⟩
  · have hx : xs = [] := List.eq_nil_of_length_eq_zero (by simpa using hown.1)
    subst hx
    by_cases hm : m = 0
    · subst hm
      have hn : news = [] := List.eq_nil_of_length_eq_zero (by simpa using hl)
      subst hn
      refine ⟨.slice none 0 0, w, ?_, Own.nil w e i.size, ⟨rfl, rfl, rfl, Nat.le_refl _, fun _ _ _ => rfl⟩, .inl rfl⟩
      rcases hs.kind with ⟨e', hk⟩ | hk <;> simp [Builtin.append_, run_underlying ht, run_underlying hk, sizeOf, typeInfo, hi, hs.len, hs.cells]
    · have hr := run_append_grow_src (P := P) w t tx ty e i z ht hi hz none 0 0 [] (run_firstCells_none w.drew i.size 0 0 0) x m news hs (by omega) (by omega) (growslice_fits (by omega) hbytes)
      have hgr := grown 0 (by omega) (Value.ownBlock (.slice none 0 0))
      exact ⟨_, _, hr, hgr.1, hgr.2, .inr rfl⟩
  · by_cases hroom : n + m ≤ cap
    · have hfit : n * i.size + news.length ≤ cur.size := by
        rw [hl, ← Nat.add_mul]
        exact Nat.le_trans (Nat.mul_le_mul_right _ hroom) hcs
      have hgb : Blk w g e cur := hg
      have hr := run_append_room_src (P := P) w t tx ty e i ht hi g 0 n cap x m news hs hroom (fun j hj => by rw [hgb.cell]; simp; omega) (fun j _ => hgb.frozen _)
      obtain ⟨cs', h1, h2, h3⟩ := setCells_blk g e news w cur (0 + n * i.size) hgb (by omega)
      obtain ⟨hc, hcz⟩ := setCells_chg g news (0 + n * i.size) w
      refine ⟨_, _, hr, ⟨hlen, .inr ⟨g, cap, cs', rfl, h1, hroom, hcm, by rw [h2]; exact hcs, ?_⟩⟩, ⟨hc.os, hc.tape, hc.output, by rw [hcz]; exact Nat.le_refl _, fun k hk hne => hc.block k hk (fun e => hne (by simp [Value.ownBlock, e]))⟩, .inl rfl⟩
      rw [Nat.add_mul, ← hl, show n * i.size + news.length = 0 + n * i.size + news.length from by omega, h3, Nat.zero_add, htake]
    · have holds : (Builtin.firstCells i.size n (.slice (some ⟨g, 0, none⟩) n cap)).run P w.drew = .ok xs.toArray w.drew := by
        refine run_firstCells_some w.drew i.size n ⟨g, 0, none⟩ n cap xs hown.1 (fun j u hu => ?_)
        obtain ⟨a', cap', he, _, _, hrd⟩ := hown.reads
        injection he with he1 he2 he3
        have hj : j < xs.length := (List.getElem?_eq_some_iff.1 hu).1
        have hn0 : 0 < n := by
          rcases Nat.eq_zero_or_pos n with h0 | h0
          · rw [hown.1, h0] at hj; simp at hj
          · exact h0
        obtain ⟨b, hb, _, _, hcell⟩ := hrd hn0
        rw [← he1] at hb
        cases hb
        have := hcell j u hu
        have e : (⟨g, 0, none⟩ : Addr).add j = ⟨g, j, none⟩ := by rw [Addr.add_lit]; simp
        rw [e]
        exact this
      have hr := run_append_grow_src (P := P) w t tx ty e i z ht hi hz (some ⟨g, 0, none⟩) n cap xs holds x m news hs (by omega) (by omega) (growslice_fits (by omega) hbytes)
      have hgr := grown cap (by omega) (Value.ownBlock (.slice (some ⟨g, 0, none⟩) n cap))
      exact ⟨_, _, hr, hgr.1, hgr.2, .inr rfl⟩

section
variable {o : Oper} {a : Act} {K : Act → World → Prop} {Q : Exit → Act → World → Prop}
theorem wp_own_append (w : World) (s x : Operand) (t tx : TypeId) (ho : o.op = .call { callee := .builtin .append, args := #[s, x], argTypes := #[t, tx] })
    (e : TypeId) (i : TypeInfo) (z : Value) (size bytes : Nat) (ht : P.underlying t = some (.slice e)) (hi : P.info? e = some i) (hz : i.zero = some z) (hsize : i.size = size) (hby : i.bytes = bytes) (hzs : z.cells.size = size)
    (v : Value) (n : Nat) (xs : List Value) (hs : a.eval s = v) (hown : Own w e size v n xs) (xv : Value) (m : Nat) (news : List Value) (hx : a.eval x = xv) (hsrc : Src P size tx xv m news w)
    (h63 : n + m ≤ maxLen) (hbytes : (n + m) * bytes ≤ 140737488355328)
    (h : ∀ v' w', Own w' e size v' (n + m) (xs ++ news) → w.grownBy w' v.ownBlock → (v'.ownBlock = v.ownBlock ∨ v'.ownBlock = some w.heap.size) → K (a.put o.dst v') w') : Oper.wp P o a w K Q := by
  obtain ⟨v', w', hr, h2, h3, h4⟩ := run_own_append (P := P) w t tx o.type e i z size bytes ht hi hz hsize hby hzs v n xs hown xv m news hsrc h63 hbytes
  unfold Oper.wp execOp
  simp only [ho, resolve, invoke, builtin, Sem.run_bind, Sem.run_pure, Result.andThen_ok, List.map_toArray, List.map_cons, List.map_nil, hs, hx, hr]
  exact h v' w' h2 h3 h4
theorem wpList_own_append (w : World) {ops : Array Oper} {rest : List Oper} (hgd : o.guard = none) (s x : Operand) (t tx : TypeId) (ho : o.op = .call { callee := .builtin .append, args := #[s, x], argTypes := #[t, tx] })
    (e : TypeId) (i : TypeInfo) (z : Value) (size bytes : Nat) (ht : P.underlying t = some (.slice e)) (hi : P.info? e = some i) (hz : i.zero = some z) (hsize : i.size = size) (hby : i.bytes = bytes) (hzs : z.cells.size = size)
    (v : Value) (n : Nat) (xs : List Value) (hs : a.eval s = v) (hown : Own w e size v n xs) (xv : Value) (m : Nat) (news : List Value) (hx : a.eval x = xv) (hsrc : Src P size tx xv m news w)
    (h63 : n + m ≤ maxLen) (hbytes : (n + m) * bytes ≤ 140737488355328)
    (h : ∀ v' w', Own w' e size v' (n + m) (xs ++ news) → w.grownBy w' v.ownBlock → (v'.ownBlock = v.ownBlock ∨ v'.ownBlock = some w.heap.size) → wpList P ops Q rest (a.put o.dst v') w') : wpList P ops Q (o :: rest) a w :=
  wpList_plain hgd fun _ hK => wp_own_append w s x t tx ho e i z size bytes ht hi hz hsize hby hzs v n xs hs hown xv m news hx hsrc h63 hbytes fun v' w' h2 h3 h4 => hK _ _ (h v' w' h2 h3 h4)
/-- At a step of a region that draws its order. -/
theorem step_own_append (w : World) {ops : Array Oper} {E : Prop} (hgd : o.guard = none) (s x : Operand) (t tx : TypeId) (ho : o.op = .call { callee := .builtin .append, args := #[s, x], argTypes := #[t, tx] })
    (e : TypeId) (i : TypeInfo) (z : Value) (size bytes : Nat) (ht : P.underlying t = some (.slice e)) (hi : P.info? e = some i) (hz : i.zero = some z) (hsize : i.size = size) (hby : i.bytes = bytes) (hzs : z.cells.size = size)
    (v : Value) (n : Nat) (xs : List Value) (hs : a.eval s = v) (hown : Own w e size v n xs) (xv : Value) (m : Nat) (news : List Value) (hx : a.eval x = xv) (hsrc : Src P size tx xv m news w)
    (h63 : n + m ≤ maxLen) (hbytes : (n + m) * bytes ≤ 140737488355328)
    (h : ∀ v' w', Own w' e size v' (n + m) (xs ++ news) → w.grownBy w' v.ownBlock → (v'.ownBlock = v.ownBlock ∨ v'.ownBlock = some w.heap.size) → K (a.put o.dst v') w') : if Region.wanted o (yielded ops a.tmps) = true then Oper.wp P o a w K Q else E := by
  have hw : Region.wanted o (yielded ops a.tmps) = true := by simp [Region.wanted, hgd]
  rw [if_pos hw]
  exact wp_own_append w s x t tx ho e i z size bytes ht hi hz hsize hby hzs v n xs hs hown xv m news hx hsrc h63 hbytes h
end
end
end Go.Proofs.YtljabmkmngbhkaaGreatDoor
