/-
  A map in memory as a function from keys to elements: plain laws on look-up, store, delete and len, over any program; no condition.
-/
import Derived.Test.YtahahginmgidjaaBase
import Derived.Maps.OwnSet
namespace Go.Proofs.Ytahahginmgidjaa
open Go.RowKit
set_option linter.unusedVariables false
open Classical in
/-- f, but x has o. -/
noncomputable def upd (f : Value → Option Value) (x : Value) (o : Option Value) : Value → Option Value := fun y => if y = x then o else f y
theorem upd_same (f : Value → Option Value) (x : Value) (o : Option Value) : upd f x o x = o := by simp [upd]
theorem upd_other (f : Value → Option Value) {x y : Value} (o : Option Value) (h : y ≠ x) : upd f x o y = f y := by simp [upd, h]

/-- The entries es say what f says; n of them. -/
structure Says (P : Program) (k : TypeId) (es : Array MapEntry) (clock : Nat) (f : Value → Option Value) : Prop where
  keys : ∀ e ∈ es.toList, ∃ l, keyOf P k e.key = some l
  apart : es.toList.Pairwise fun a b => a.key ≠ b.key
  born : ∀ e ∈ es.toList, e.born < clock
  ages : es.toList.Pairwise fun a b => a.born ≠ b.born
  says : ∀ x v, f x = some v ↔ ∃ e ∈ es.toList, e.key = x ∧ e.val = v

/-- Block b is a map of n entries that says f. -/
def MapAt (P : Program) (k : TypeId) (w : World) (b : Nat) (n : Nat) (f : Value → Option Value) : Prop :=
  ∃ es clock, w.heap[b]? = some (.map es clock) ∧ es.size = n ∧ Says P k es clock f

theorem says_empty (P : Program) (k : TypeId) : Says P k #[] 0 fun _ => none :=
  ⟨by simp, by simp, by simp, by simp, by simp⟩

section
variable {P : Program} {k t e : TypeId} {w w' : World} {b n : Nat} {f : Value → Option Value} {x v : Value} {l : Lit}

theorem MapAt.lt (h : MapAt P k w b n f) : b < w.heap.size := by
  obtain ⟨es, c, hb, _⟩ := h
  rcases Nat.lt_or_ge b w.heap.size with hlt | hge
  · exact hlt
  · rw [Array.getElem?_eq_none hge] at hb; cases hb
theorem MapAt.chg {S : Nat → Prop} (h : MapAt P k w b n f) (hc : Chg S w w') (hS : ¬ S b) : MapAt P k w' b n f := by
  have hlt := h.lt
  obtain ⟨es, c, hb, r⟩ := h
  exact ⟨es, c, (hc.block b hlt hS).trans hb, r⟩
theorem MapAt.drewN (h : MapAt P k w b n f) (m : Nat) : MapAt P k (w.drewN m) b n f := h
theorem MapAt.drew (h : MapAt P k w b n f) : MapAt P k w.drew b n f := h
theorem MapAt.new (P : Program) (k : TypeId) (w : World) : MapAt P k (w.alloc (.map #[] 0)) w.heap.size 0 fun _ => none :=
  ⟨#[], 0, heap_alloc_new w _, rfl, says_empty P k⟩
theorem Blk.ne_map {g : Nat} {t' : TypeId} {cs : Array Value} (h : Blk w g t' cs) (h' : MapAt P k w b n f) : g ≠ b := by
  rintro rfl
  obtain ⟨es, c, hb, _⟩ := h'
  unfold Blk at h
  rw [h] at hb
  cases hb
theorem MapAt.ne_ {k' : TypeId} {b' n' : Nat} {f' : Value → Option Value} {t' : TypeId} {cs : Array Value} (h : MapAt P k w b n f) (h' : Blk w b' t' cs) : b ≠ b' := fun e => h'.ne_map h e.symm

/-- The entry of a key that is there; that a key isn't there. -/
theorem Says.none_ {es : Array MapEntry} {c : Nat} (h : Says P k es c f) (hn : f x = none) : ∀ e ∈ es.toList, e.key ≠ x := fun e he hk => by
  have := (h.says x e.val).2 ⟨e, he, hk, rfl⟩
  rw [hn] at this; cases this
theorem Says.one {es : Array MapEntry} {c : Nat} (h : Says P k es c f) {e e' : MapEntry} (he : e ∈ es.toList) (he' : e' ∈ es.toList) (hk : e.key = e'.key) : e = e' := by
  obtain ⟨i, hi, rfl⟩ := List.mem_iff_getElem.1 he
  obtain ⟨j, hj, rfl⟩ := List.mem_iff_getElem.1 he'
  have ha := List.pairwise_iff_getElem.1 h.apart
  rcases Nat.lt_trichotomy i j with hij | rfl | hij
  · exact absurd hk (ha i j hi hj hij)
  · rfl
  · exact absurd hk.symm (ha j i hj hi hij)

/-- m[x], with or without ok. -/
theorem MapAt.look (h : MapAt P k w b n f) (K : Go.Maps.Keyed P k) (ht : P.underlying t = some (.map k e)) {z : Value} (hz : (zeroValue e).run P w = .ok z w) (hx : keyOf P k x = some l) (c : Bool) :
    (Instr.lookup t (.map (some b)) x c).run P w = .ok (if c then .tuple #[(f x).getD z, .bool (f x).isSome] else (f x).getD z) w := by
  obtain ⟨es, clock, hb, hn, hs⟩ := h
  have hobj := MapKept.run_getObj_map (P := P) hb
  have hck := K.check w es.isEmpty hx
  rcases K.find w hx es.toList hs.keys with ⟨hf, hne⟩ | ⟨j, e0, hf, hj, hk⟩
  · have hfx : f x = none := by
      cases hfx : f x with
      | none => rfl
      | some v => obtain ⟨e, he, hk, _⟩ := (hs.says x v).1 hfx; exact absurd hk (hne e he)
    rw [hfx]
    unfold Instr.lookup
    cases c <;> simp [run_underlying ht, hobj, hck, hf, hz, Result.andThen]
  · have hfx : f x = some e0.val := (hs.says x e0.val).2 ⟨e0, List.mem_of_getElem? hj, hk, rfl⟩
    rw [hfx]
    unfold Instr.lookup
    cases c <;> simp [run_underlying ht, hobj, hck, hf, Result.andThen]
theorem look_nil (K : Go.Maps.Keyed P k) (ht : P.underlying t = some (.map k e)) {z : Value} (hz : (zeroValue e).run P w = .ok z w) (hx : keyOf P k x = some l) (c : Bool) :
    (Instr.lookup t (.map none) x c).run P w = .ok (if c then .tuple #[z, .bool false] else z) w := by
  have hck := K.check w true hx
  rcases K.find w hx [] (by simp) with ⟨hf, hne⟩ | ⟨j, e0, hf, hj, hk⟩
  · unfold Instr.lookup
    cases c <;> simp [run_underlying ht, hck, hf, hz, Result.andThen]
  · simp at hj

/-- The world in which block b is another object. -/
def put (w : World) (b : Nat) (o : Obj) : World := { w with heap := w.heap.setIfInBounds b o }
theorem put_chg (w : World) (b : Nat) (o : Obj) : Chg (fun k => k = b) w (put w b o) :=
  ⟨rfl, rfl, rfl, by simp [put], fun k _ hk => by simp only [put]; rw [Array.getElem?_setIfInBounds_ne (by omega)]⟩
theorem put_size (w : World) (b : Nat) (o : Obj) : (put w b o).heap.size = w.heap.size := by simp [put]
theorem put_same (w : World) (b : Nat) (o : Obj) (h : b < w.heap.size) : (put w b o).heap[b]? = some o := by simp [put, h]

/-- m[x] = v. -/
theorem MapAt.store (h : MapAt P k w b n f) (K : Go.Maps.Keyed P k) (ht : P.underlying t = some (.map k e)) (hx : keyOf P k x = some l) (v : Value) :
    ∃ w', (Instr.mapUpdate t (.map (some b)) x v).run P w = .ok () w' ∧ MapAt P k w' b (if (f x).isSome then n else n + 1) (upd f x (some v)) ∧ Chg (fun k => k = b) w w' ∧ w'.heap.size = w.heap.size := by
  have hlt := h.lt
  obtain ⟨es, clock, hb, hn, hs⟩ := h
  have hobj := MapKept.run_getObj_map (P := P) hb
  have hck := K.check w false hx
  have hset : ∀ o : Obj, (∀ c t fr, o ≠ .cells c t fr) → (setObj b o).run P w = .ok () (put w b o) := fun o ho => by
    simp [setObj, Sem.run, hb, put]
  rcases K.find w hx es.toList hs.keys with ⟨hf, hne⟩ | ⟨j, e0, hf, hj, hk⟩
  · have hfx : f x = none := by
      cases hfx : f x with
      | none => rfl
      | some v => obtain ⟨e, he, hk, _⟩ := (hs.says x v).1 hfx; exact absurd hk (hne e he)
    refine ⟨put w b (.map (es.push { key := x, val := v, born := clock }) (clock + 1)), ?_, ⟨_, _, put_same _ _ _ hlt, ?_, ?_⟩, put_chg _ _ _, put_size _ _ _⟩
    · unfold Instr.mapUpdate
      simp [run_underlying ht, hobj, hck, hf, hset, Result.andThen]
    · simp [hfx, hn]
    · refine ⟨fun e he => ?_, ?_, fun e he => ?_, ?_, fun y u => ?_⟩
      · simp only [Array.toList_push, List.mem_append, List.mem_singleton] at he
        rcases he with he | rfl
        · exact hs.keys e he
        · exact ⟨l, hx⟩
      · rw [Array.toList_push, List.pairwise_append]
        exact ⟨hs.apart, by simp, fun a ha c hc => by simp only [List.mem_singleton] at hc; subst hc; exact hne a ha⟩
      · simp only [Array.toList_push, List.mem_append, List.mem_singleton] at he
        rcases he with he | rfl
        · exact Nat.lt_succ_of_lt (hs.born e he)
        · exact Nat.lt_succ_self _
      · rw [Array.toList_push, List.pairwise_append]
        exact ⟨hs.ages, by simp, fun a ha c hc => by simp only [List.mem_singleton] at hc; subst hc; have := hs.born a ha; simp; omega⟩
      · simp only [Array.toList_push, List.mem_append, List.mem_singleton]
        by_cases hy : y = x
        · subst hy
          rw [upd_same]
          constructor
          · intro hu; cases hu; exact ⟨_, .inr rfl, rfl, rfl⟩
          · rintro ⟨e, he | rfl, hke, hve⟩
            · exact absurd hke (hne e he)
            · simpa using hve
        · rw [upd_other _ _ hy, hs.says y u]
          constructor
          · rintro ⟨e, he, h1, h2⟩; exact ⟨e, .inl he, h1, h2⟩
          · rintro ⟨e, he | rfl, h1, h2⟩
            · exact ⟨e, he, h1, h2⟩
            · exact absurd h1.symm hy
  · have hmem := List.mem_of_getElem? hj
    have hfx : f x = some e0.val := (hs.says x e0.val).2 ⟨e0, hmem, hk, rfl⟩
    have hj' : es[j]? = some e0 := by simpa using hj
    have hjl : j < es.size := (Array.getElem?_eq_some_iff.1 hj').1
    have hst := K.stays w hx
    have hes : (es.modify j fun e => { e with key := x, val := v }).toList = es.toList.set j { e0 with val := v } := by
      apply List.ext_getElem?
      intro i
      rw [Array.getElem?_toList, Array.getElem?_modify, List.getElem?_set]
      by_cases hij : j = i
      · subst hij
        rw [if_pos rfl, if_pos rfl, hj', if_pos (by simpa using hjl)]
        simp [hk]
      · rw [if_neg hij, if_neg hij]; simp
    refine ⟨put w b (.map (es.modify j fun e => { e with key := x, val := v }) clock), ?_, ⟨_, _, put_same _ _ _ hlt, ?_, ?_⟩, put_chg _ _ _, put_size _ _ _⟩
    · unfold Instr.mapUpdate
      simp [run_underlying ht, hobj, hck, hf, hj', hk, hst, hset, Result.andThen]
    · simp [hfx, hn]
    · have hkeys : ∀ i (hi : i < (es.toList.set j { e0 with val := v }).length), ((es.toList.set j { e0 with val := v })[i]).key = (es.toList[i]'(by simpa using hi)).key ∧ ((es.toList.set j { e0 with val := v })[i]).born = (es.toList[i]'(by simpa using hi)).born := fun i hi => by
        rw [List.getElem_set]
        split
        · rename_i hji; subst hji
          have : es.toList[j]'(by simpa using hjl) = e0 := by
            have := hj; rw [List.getElem?_eq_getElem (by simpa using hjl)] at this; simpa using this
          rw [this]; exact ⟨rfl, rfl⟩
        · exact ⟨rfl, rfl⟩
      refine ⟨fun e he => ?_, ?_, fun e he => ?_, ?_, fun y u => ?_⟩
      · rw [hes] at he
        rcases List.mem_or_eq_of_mem_set he with he | rfl
        · exact hs.keys e he
        · exact hs.keys e0 hmem
      · rw [hes, List.pairwise_iff_getElem]
        intro i1 i2 h1 h2 h12
        rw [(hkeys i1 h1).1, (hkeys i2 h2).1]
        exact List.pairwise_iff_getElem.1 hs.apart i1 i2 _ _ h12
      · rw [hes] at he
        rcases List.mem_or_eq_of_mem_set he with he | rfl
        · exact hs.born e he
        · exact hs.born e0 hmem
      · rw [hes, List.pairwise_iff_getElem]
        intro i1 i2 h1 h2 h12
        rw [(hkeys i1 h1).2, (hkeys i2 h2).2]
        exact List.pairwise_iff_getElem.1 hs.ages i1 i2 _ _ h12
      · rw [hes]
        have hj0 : es.toList[j]'(by simpa using hjl) = e0 := by
          have := hj; rw [List.getElem?_eq_getElem (by simpa using hjl)] at this; simpa using this
        by_cases hy : y = x
        · subst hy
          rw [upd_same]
          constructor
          · intro hu; cases hu
            exact ⟨{ e0 with val := v }, List.mem_iff_getElem.2 ⟨j, by simpa using hjl, by simp⟩, hk, rfl⟩
          · rintro ⟨e, he, hke, hve⟩
            obtain ⟨i, hi, rfl⟩ := List.mem_iff_getElem.1 he
            rw [List.getElem_set] at hke hve
            split at hve
            · simpa using hve
            · rename_i hji
              rw [if_neg hji] at hke
              exfalso
              have hi' : i < es.toList.length := by simpa using hi
              have := hs.one (List.getElem_mem hi') hmem (hke.trans hk.symm)
              rw [← hj0] at this
              have ha := List.pairwise_iff_getElem.1 hs.ages
              rcases Nat.lt_or_gt_of_ne hji with hlt' | hgt
              · exact ha j i (by simpa using hjl) hi' hlt' (by rw [this])
              · exact ha i j hi' (by simpa using hjl) hgt (by rw [this])
        · rw [upd_other _ _ hy, hs.says y u]
          constructor
          · rintro ⟨e, he, h1, h2⟩
            obtain ⟨i, hi, rfl⟩ := List.mem_iff_getElem.1 he
            have hij : j ≠ i := by
              rintro rfl
              rw [hj0] at h1
              exact hy (h1.symm.trans hk)
            exact ⟨es.toList[i], List.mem_iff_getElem.2 ⟨i, by simpa using hi, by rw [List.getElem_set, if_neg hij]⟩, h1, h2⟩
          · rintro ⟨e, he, h1, h2⟩
            rcases List.mem_or_eq_of_mem_set he with he | rfl
            · exact ⟨e, he, h1, h2⟩
            · exact absurd (h1.symm.trans hk) hy

/-- delete(m, x). -/
theorem MapAt.drop {ty : TypeId} (h : MapAt P k w b n f) (K : Go.Maps.Keyed P k) (ht : P.underlying t = some (.map k e)) (hx : keyOf P k x = some l) :
    ∃ w', (Builtin.delete_ #[t, k] ty #[.map (some b), x]).run P w = .ok (.tuple #[]) w' ∧ MapAt P k w' b (if (f x).isSome then n - 1 else n) (upd f x none) ∧ Chg (fun k => k = b) w w' ∧ w'.heap.size = w.heap.size := by
  have hlt := h.lt
  obtain ⟨es, clock, hb, hn, hs⟩ := h
  have hobj := MapKept.run_getObj_map (P := P) hb
  have hck := K.check w es.isEmpty hx
  have hset : ∀ o : Obj, (setObj b o).run P w = .ok () (put w b o) := fun o => by
    simp [setObj, Sem.run, hb, put]
  rcases K.find w hx es.toList hs.keys with ⟨hf, hne⟩ | ⟨j, e0, hf, hj, hk⟩
  · have hfx : f x = none := by
      cases hfx : f x with
      | none => rfl
      | some v => obtain ⟨e, he, hk, _⟩ := (hs.says x v).1 hfx; exact absurd hk (hne e he)
    refine ⟨put w b (.map es clock), ?_, ⟨_, _, put_same _ _ _ hlt, by simp [hfx, hn], hs.keys, hs.apart, hs.born, hs.ages, fun y u => ?_⟩, put_chg _ _ _, put_size _ _ _⟩
    · unfold Builtin.delete_
      simp [run_underlying ht, hobj, hck, hf, hset, Result.andThen]
    · by_cases hy : y = x
      · subst hy
        rw [upd_same, ← hfx]
        exact hs.says y u
      · rw [upd_other _ _ hy]
        exact hs.says y u
  · have hmem := List.mem_of_getElem? hj
    have hfx : f x = some e0.val := (hs.says x e0.val).2 ⟨e0, hmem, hk, rfl⟩
    have hj' : es[j]? = some e0 := by simpa using hj
    have hjl : j < es.size := (Array.getElem?_eq_some_iff.1 hj').1
    have hes : (es.eraseIdxIfInBounds j).toList = es.toList.eraseIdx j := by
      simp [Array.eraseIdxIfInBounds, hjl]
    have hsub : (es.toList.eraseIdx j).Sublist es.toList := List.eraseIdx_sublist _ _
    refine ⟨put w b (.map (es.eraseIdxIfInBounds j) clock), ?_, ⟨_, _, put_same _ _ _ hlt, ?_, ?_⟩, put_chg _ _ _, put_size _ _ _⟩
    · unfold Builtin.delete_
      simp [run_underlying ht, hobj, hck, hf, hset, Result.andThen]
    · have : (es.eraseIdxIfInBounds j).toList.length = es.size - 1 := by rw [hes, List.length_eraseIdx]; simp [hjl]
      rw [hfx]
      rw [Array.length_toList, hn] at this
      simpa using this
    · refine ⟨fun e he => hs.keys e (hsub.subset (by rwa [hes] at he)), by rw [hes]; exact hs.apart.sublist hsub, fun e he => hs.born e (hsub.subset (by rwa [hes] at he)), by rw [hes]; exact hs.ages.sublist hsub, fun y u => ?_⟩
      rw [hes]
      have hj0 : es.toList[j]'(by simpa using hjl) = e0 := by
        have := hj; rw [List.getElem?_eq_getElem (by simpa using hjl)] at this; simpa using this
      by_cases hy : y = x
      · subst hy
        rw [upd_same]
        constructor
        · intro h; cases h
        · rintro ⟨e, he, h1, h2⟩
          exfalso
          obtain ⟨i, hi, hij, rfl⟩ := List.mem_eraseIdx_iff_getElem.1 he
          have := hs.one (List.getElem_mem hi) hmem (h1.trans hk.symm)
          rw [← hj0] at this
          have ha := List.pairwise_iff_getElem.1 hs.ages
          rcases Nat.lt_or_gt_of_ne hij with hlt' | hgt
          · exact ha i j hi (by simpa using hjl) hlt' (by rw [this])
          · exact ha j i (by simpa using hjl) hi hgt (by rw [this])
      · rw [upd_other _ _ hy, hs.says y u]
        constructor
        · rintro ⟨e, he, h1, h2⟩
          obtain ⟨i, hi, rfl⟩ := List.mem_iff_getElem.1 he
          have hij : i ≠ j := by
            rintro rfl
            rw [hj0] at h1
            exact hy (h1.symm.trans hk)
          exact ⟨es.toList[i], List.mem_eraseIdx_iff_getElem.2 ⟨i, hi, hij, rfl⟩, h1, h2⟩
        · rintro ⟨e, he, h1, h2⟩
          exact ⟨e, hsub.subset he, h1, h2⟩

/-- len(m). -/
theorem MapAt.len (h : MapAt P k w b n f) (ht : P.underlying t = some (.map k e)) (ty : TypeId) : (Builtin.len_ #[t] ty #[.map (some b)]).run P w = .ok (.int .i64 n) w := by
  obtain ⟨es, clock, hb, hn, hs⟩ := h
  subst hn
  simp [Builtin.len_, run_underlying ht, MapKept.run_getObj_map hb, goInt, Result.andThen]
end
end Go.Proofs.Ytahahginmgidjaa
