/-
  A map in memory as a function from keys to elements: plain laws on look-up, store, delete and len, over any program; no condition.
  The disk in memory; contracts of may, find, good, rest, spring.
-/
import Derived.Test.YtljabmkmngbhkaaGreatDoorZMg00
import Derived.Maps.OwnSet
import Derived.Test.YtljabmkmngbhkaaGreatDoorProg
import Derived.Test.YtljabmkmngbhkaaGreatDoorZOwn
import Derived.Deep.DeepMust
import Derived.DeepKeys4
namespace Go.Proofs.YtljabmkmngbhkaaGreatDoor
open Go.RowKit
set_option linter.unusedVariables false
open Classical in
/-- f, but x has o. -/
noncomputable def upd (f : Value → Option Value) (x : Value) (o : Option Value) : Value → Option Value := fun y => if y = x then o else f y
theorem upd_same (f : Value → Option Value) (x : Value) (o : Option Value) : upd f x o x = o := by simp [upd]
theorem upd_other (f : Value → Option Value) {x y : Value} (o : Option Value) (h : y ≠ x) : upd f x o y = f y := by simp [upd, h]

/-- The entries es say what f says; n of them. -/
structure Says (P : Program) (k : TypeId) (es : Array MapEntry) (clock : Nat) (f : Value → Option Value) : Prop where
  keys : ∀ e ∈ es.toList, ∃ l, keyOf P k e.key = some l
  apart : es.toList.Pairwise fun a b => a.key ≠ b.key
  born : ∀ e ∈ es.toList, e.born < clock
  ages : es.toList.Pairwise fun a b => a.born ≠ b.born
  says : ∀ x v, f x = some v ↔ ∃ e ∈ es.toList, e.key = x ∧ e.val = v

/-- Block b is a map of n entries that says f. -/
def MapAt (P : Program) (k : TypeId) (w : World) (b : Nat) (n : Nat) (f : Value → Option Value) : Prop :=
  ∃ es clock, w.heap[b]? = some (.map es clock) ∧ es.size = n ∧ Says P k es clock f

theorem says_empty (P : Program) (k : TypeId) : Says P k #[] 0 fun _ => none :=
  ⟨by simp, by simp, by simp, by simp, by simp⟩

section
variable {P : Program} {k t e : TypeId} {w w' : World} {b n : Nat} {f : Value → Option Value} {x v : Value} {l : Lit}

theorem MapAt.lt (h : MapAt P k w b n f) : b < w.heap.size := by
  obtain ⟨es, c, hb, _⟩ := h
  rcases Nat.lt_or_ge b w.heap.size with hlt | hge
  · exact hlt
  · rw [Array.getElem?_eq_none hge] at hb; cases hb
theorem MapAt.chg {S : Nat → Prop} (h : MapAt P k w b n f) (hc : Chg S w w') (hS : ¬ S b) : MapAt P k w' b n f := by
  have hlt := h.lt
  obtain ⟨es, c, hb, r⟩ := h
  exact ⟨es, c, (hc.block b hlt hS).trans hb, r⟩
theorem MapAt.drewN (h : MapAt P k w b n f) (m : Nat) : MapAt P k (w.drewN m) b n f := h
theorem MapAt.drew (h : MapAt P k w b n f) : MapAt P k w.drew b n f := h
theorem MapAt.new (P : Program) (k : TypeId) (w : World) : MapAt P k (w.alloc (.map #[] 0)) w.heap.size 0 fun _ => none :=
  ⟨#[], 0, heap_alloc_new w _, rfl, says_empty P k⟩
theorem Blk.ne_map {g : Nat} {t' : TypeId} {cs : Array Value} (h : Blk w g t' cs) (h' : MapAt P k w b n f) : g ≠ b := by
  rintro rfl
  obtain ⟨es, c, hb, _⟩ := h'
  unfold Blk at h
  rw [h] at hb
  cases hb
theorem MapAt.ne_ {k' : TypeId} {b' n' : Nat} {f' : Value → Option Value} {t' : TypeId} {cs : Array Value} (h : MapAt P k w b n f) (h' : Blk w b' t' cs) : b ≠ b' := fun e => h'.ne_map h e.symm

/-- The entry of a key that is there; that a key isn't there. -/
theorem Says.none_ {es : Array MapEntry} {c : Nat} (h : Says P k es c f) (hn : f x = none) : ∀ e ∈ es.toList, e.key ≠ x := fun e he hk => by
  have := (h.says x e.val).2 ⟨e, he, hk, rfl⟩
  rw [hn] at this; cases this
theorem Says.one {es : Array MapEntry} {c : Nat} (h : Says P k es c f) {e e' : MapEntry} (he : e ∈ es.toList) (he' : e' ∈ es.toList) (hk : e.key = e'.key) : e = e' := by
  obtain ⟨i, hi, rfl⟩ := List.mem_iff_getElem.1 he
  obtain ⟨j, hj, rfl⟩ := List.mem_iff_getElem.1 he'
  have ha := List.pairwise_iff_getElem.1 h.apart
  rcases Nat.lt_trichotomy i j with hij | rfl | hij
  · exact absurd hk (ha i j hi hj hij)
  · rfl
  · exact absurd hk.symm (ha j i hj hi hij)

/-- m[x], with or without ok. -/
theorem MapAt.look (h : MapAt P k w b n f) (K : Go.Maps.Keyed P k) (ht : P.underlying t = some (.map k e)) {z : Value} (hz : (zeroValue e).run P w = .ok z w) (hx : keyOf P k x = some l) (c : Bool) :
    (Instr.lookup t (.map (some b)) x c).run P w = .ok (if c then .tuple #[(f x).getD z, .bool (f x).isSome] else (f x).getD z) w := by
  obtain ⟨es, clock, hb, hn, hs⟩ := h
  have hobj := MapKept.run_getObj_map (P := P) hb
  have hck := K.check w es.isEmpty hx
  rcases K.find w hx es.toList hs.keys with ⟨hf, hne⟩ | ⟨j, e0, hf, hj, hk⟩
  · have hfx : f x = none := by
      cases hfx : f x with
      | none => rfl
      | some v => obtain ⟨e, he, hk, _⟩ := (hs.says x v).1 hfx; exact absurd hk (hne e he)
    rw [hfx]
    unfold Instr.lookup
    cases c <;> simp [run_underlying ht, hobj, hck, hf, hz, Result.andThen]
  · have hfx : f x = some e0.val := (hs.says x e0.val).2 ⟨e0, List.mem_of_getElem? hj, hk, rfl⟩
    rw [hfx]
    unfold Instr.lookup
    cases c <;> simp [run_underlying ht, hobj, hck, hf, Result.andThen]
/-- The world in which block b is another object. -/
def put (w : World) (b : Nat) (o : Obj) : World := { w with heap := w.heap.setIfInBounds b o }
theorem put_chg (w : World) (b : Nat) (o : Obj) : Chg (fun k => k = b) w (put w b o) :=
  ⟨rfl, rfl, rfl, by simp [put], fun k _ hk => by simp only [put]; rw [Array.getElem?_setIfInBounds_ne (by omega)]⟩
theorem put_size (w : World) (b : Nat) (o : Obj) : (put w b o).heap.size = w.heap.size := by simp [put]
theorem put_same (w : World) (b : Nat) (o : Obj) (h : b < w.heap.size) : (put w b o).heap[b]? = some o := by simp [put, h]

/-- m[x] = v. -/
theorem MapAt.store (h : MapAt P k w b n f) (K : Go.Maps.Keyed P k) (ht : P.underlying t = some (.map k e)) (hx : keyOf P k x = some l) (v : Value) :
    ∃ w', (Instr.mapUpdate t (.map (some b)) x v).run P w = .ok () w' ∧ MapAt P k w' b (if (f x).isSome then n else n + 1) (upd f x (some v)) ∧ Chg (fun k => k = b) w w' ∧ w'.heap.size = w.heap.size := by
  have hlt := h.lt
  obtain ⟨es, clock, hb, hn, hs⟩ := h
  have hobj := MapKept.run_getObj_map (P := P) hb
  have hck := K.check w false hx
  have hset : ∀ o : Obj, (∀ c t fr, o ≠ .cells c t fr) → (setObj b o).run P w = .ok () (put w b o) := fun o ho => by
    simp [setObj, Sem.run, hb, put]
  rcases K.find w hx es.toList hs.keys with ⟨hf, hne⟩ | ⟨j, e0, hf, hj, hk⟩
  · have hfx : f x = none := by
      cases hfx : f x with
      | none => rfl
      | some v => obtain ⟨e, he, hk, _⟩ := (hs.says x v).1 hfx; exact absurd hk (hne e he)
    refine ⟨put w b (.map (es.push { key := x, val := v, born := clock }) (clock + 1)), ?_, ⟨_, _, put_same _ _ _ hlt, ?_, ?_⟩, put_chg _ _ _, put_size _ _ _⟩
    · unfold Instr.mapUpdate
      simp [run_underlying ht, hobj, hck, hf, hset, Result.andThen]
    · simp [hfx, hn]
    · refine ⟨fun e he => ?_, ?_, fun e he => ?_, ?_, fun y u => ?_⟩
      · simp only [Array.toList_push, List.mem_append, List.mem_singleton] at he
        rcases he with he | rfl
        · exact hs.keys e he
        · exact ⟨l, hx⟩
      · rw [Array.toList_push, List.pairwise_append]
        exact ⟨hs.apart, by simp, fun a ha c hc => by simp only [List.mem_singleton] at hc; subst hc; exact hne a ha⟩
      · simp only [Array.toList_push, List.mem_append, List.mem_singleton] at he
        rcases he with he | rfl
        · exact Nat.lt_succ_of_lt (hs.born e he)
        · exact Nat.lt_succ_self _
      · rw [Array.toList_push, List.pairwise_append]
        exact ⟨hs.ages, by simp, fun a ha c hc => by simp only [List.mem_singleton] at hc; subst hc; have := hs.born a ha; simp; omega⟩
      · simp only [Array.toList_push, List.mem_append, List.mem_singleton]
        by_cases hy : y = x
        · subst hy
          rw [upd_same]
          constructor
          · intro hu; cases hu; exact ⟨_, .inr rfl, rfl, rfl⟩
          · rintro ⟨e, he | rfl, hke, hve⟩
            · exact absurd hke (hne e he)
            · simpa using hve
        · rw [upd_other _ _ hy, hs.says y u]
          constructor
          · rintro ⟨e, he, h1, h2⟩; exact ⟨e, .inl he, h1, h2⟩
          · rintro ⟨e, he | rfl, h1, h2⟩
            · exact ⟨e, he, h1, h2⟩
            · exact absurd h1.symm hy
  · have hmem := List.mem_of_getElem? hj
    have hfx : f x = some e0.val := (hs.says x e0.val).2 ⟨e0, hmem, hk, rfl⟩
    have hj' : es[j]? = some e0 := by simpa using hj
    have hjl : j < es.size := (Array.getElem?_eq_some_iff.1 hj').1
    have hst := K.stays w hx
    have hes : (es.modify j fun e => { e with key := x, val := v }).toList = es.toList.set j { e0 with val := v } := by
      apply List.ext_getElem?
      intro i
      rw [Array.getElem?_toList, Array.getElem?_modify, List.getElem?_set]
      by_cases hij : j = i
      · subst hij
        rw [if_pos rfl, if_pos rfl, hj', if_pos (by simpa using hjl)]
        simp [hk]
      · rw [if_neg hij, if_neg hij]; simp
    refine ⟨put w b (.map (es.modify j fun e => { e with key := x, val := v }) clock), ?_, ⟨_, _, put_same _ _ _ hlt, ?_, ?_⟩, put_chg _ _ _, put_size _ _ _⟩
    · unfold Instr.mapUpdate
      simp [run_underlying ht, hobj, hck, hf, hj', hk, hst, hset, Result.andThen]
    · simp [hfx, hn]
    · have hkeys : ∀ i (hi : i < (es.toList.set j { e0 with val := v }).length), ((es.toList.set j { e0 with val := v })[i]).key = (es.toList[i]'(by simpa using hi)).key ∧ ((es.toList.set j { e0 with val := v })[i]).born = (es.toList[i]'(by simpa using hi)).born := fun i hi => by
        rw [List.getElem_set]
        split
        · rename_i hji; subst hji
          have : es.toList[j]'(by simpa using hjl) = e0 := by
            have := hj; rw [List.getElem?_eq_getElem (by simpa using hjl)] at this; simpa using this
          rw [this]; exact ⟨rfl, rfl⟩
        · exact ⟨rfl, rfl⟩
      refine ⟨fun e he => ?_, ?_, fun e he => ?_, ?_, fun y u => ?_⟩
      · rw [hes] at he
        rcases List.mem_or_eq_of_mem_set he with he | rfl
        · exact hs.keys e he
        · exact hs.keys e0 hmem
      · rw [hes, List.pairwise_iff_getElem]
        intro i1 i2 h1 h2 h12
        rw [(hkeys i1 h1).1, (hkeys i2 h2).1]
        exact List.pairwise_iff_getElem.1 hs.apart i1 i2 _ _ h12
      · rw [hes] at he
        rcases List.mem_or_eq_of_mem_set he with he | rfl
        · exact hs.born e he
        · exact hs.born e0 hmem
      · rw [hes, List.pairwise_iff_getElem]
        intro i1 i2 h1 h2 h12
        rw [(hkeys i1 h1).2, (hkeys i2 h2).2]
        exact List.pairwise_iff_getElem.1 hs.ages i1 i2 _ _ h12
      · rw [hes]
        have hj0 : es.toList[j]'(by simpa using hjl) = e0 := by
          have := hj; rw [List.getElem?_eq_getElem (by simpa using hjl)] at this; simpa using this
        by_cases hy : y = x
        · subst hy
          rw [upd_same]
          constructor
          · intro hu; cases hu
            exact ⟨{ e0 with val := v }, List.mem_iff_getElem.2 ⟨j, by simpa using hjl, by simp⟩, hk, rfl⟩
          · rintro ⟨e, he, hke, hve⟩
            obtain ⟨i, hi, rfl⟩ := List.mem_iff_getElem.1 he
            rw [List.getElem_set] at hke hve
            split at hve
            · simpa using hve
            · rename_i hji
              rw [if_neg hji] at hke
              exfalso
              have hi' : i < es.toList.length := by simpa using hi
              have := hs.one (List.getElem_mem hi') hmem (hke.trans hk.symm)
              rw [← hj0] at this
              have ha := List.pairwise_iff_getElem.1 hs.ages
              rcases Nat.lt_or_gt_of_ne hji with hlt' | hgt
              · exact ha j i (by simpa using hjl) hi' hlt' (by rw [this])
              · exact ha i j hi' (by simpa using hjl) hgt (by rw [this])
        · rw [upd_other _ _ hy, hs.says y u]
          constructor
          · rintro ⟨e, he, h1, h2⟩
            obtain ⟨i, hi, rfl⟩ := List.mem_iff_getElem.1 he
            have hij : j ≠ i := by
              rintro rfl
              rw [hj0] at h1
              exact hy (h1.symm.trans hk)
            exact ⟨es.toList[i], List.mem_iff_getElem.2 ⟨i, by simpa using hi, by rw [List.getElem_set, if_neg hij]⟩, h1, h2⟩
          · rintro ⟨e, he, h1, h2⟩
            rcases List.mem_or_eq_of_mem_set he with he | rfl
            · exact ⟨e, he, h1, h2⟩
            · exact absurd (h1.symm.trans hk) hy

/-- delete(m, x). -/
theorem MapAt.drop {ty : TypeId} (h : MapAt P k w b n f) (K : Go.Maps.Keyed P k) (ht : P.underlying t = some (.map k e)) (hx : keyOf P k x = some l) :
    ∃ w', (Builtin.delete_ #[t, k] ty #[.map (some b), x]).run P w = .ok (.tuple #[]) w' ∧ MapAt P k w' b (if (f x).isSome then n - 1 else n) (upd f x none) ∧ Chg (fun k => k = b) w w' ∧ w'.heap.size = w.heap.size := by
  have hlt := h.lt
  obtain ⟨es, clock, hb, hn, hs⟩ := h
  have hobj := MapKept.run_getObj_map (P := P) hb
  have hck := K.check w es.isEmpty hx
  have hset : ∀ o : Obj, (setObj b o).run P w = .ok () (put w b o) := fun o => by
    simp [setObj, Sem.run, hb, put]
  rcases K.find w hx es.toList hs.keys with ⟨hf, hne⟩ | ⟨j, e0, hf, hj, hk⟩
  · have hfx : f x = none := by
      cases hfx : f x with
      | none => rfl
      | some v => obtain ⟨e, he, hk, _⟩ := (hs.says x v).1 hfx; exact absurd hk (hne e he)
    refine ⟨put w b (.map es clock), ?_, ⟨_, _, put_same _ _ _ hlt, by simp [hfx, hn], hs.keys, hs.apart, hs.born, hs.ages, fun y u => ?_⟩, put_chg _ _ _, put_size _ _ _⟩
    · unfold Builtin.delete_
      simp [run_underlying ht, hobj, hck, hf, hset, Result.andThen]
    · by_cases hy : y = x
      · subst hy
        rw [upd_same, ← hfx]
        exact hs.says y u
      · rw [upd_other _ _ hy]
        exact hs.says y u
  · have hmem := List.mem_of_getElem? hj
    have hfx : f x = some e0.val := (hs.says x e0.val).2 ⟨e0, hmem, hk, rfl⟩
    have hj' : es[j]? = some e0 := by simpa using hj
    have hjl : j < es.size := (Array.getElem?_eq_some_iff.1 hj').1
    have hes : (es.eraseIdxIfInBounds j).toList = es.toList.eraseIdx j := by
      simp [Array.eraseIdxIfInBounds, hjl]
    have hsub : (es.toList.eraseIdx j).Sublist es.toList := List.eraseIdx_sublist _ _
    refine ⟨put w b (.map (es.eraseIdxIfInBounds j) clock), ?_, ⟨_, _, put_same _ _ _ hlt, ?_, ?_⟩, put_chg _ _ _, put_size _ _ _⟩
    · unfold Builtin.delete_
      simp [run_underlying ht, hobj, hck, hf, hset, Result.andThen]
    · have : (es.eraseIdxIfInBounds j).toList.length = es.size - 1 := by rw [hes, List.length_eraseIdx]; simp [hjl]
      rw [hfx]
      rw [Array.length_toList, hn] at this
      simpa using this
    · refine ⟨fun e he => hs.keys e (hsub.subset (by rwa [hes] at he)), by rw [hes]; exact hs.apart.sublist hsub, fun e he => hs.born e (hsub.subset (by rwa [hes] at he)), by rw [hes]; exact hs.ages.sublist hsub, fun y u => ?_⟩
      rw [hes]
      have hj0 : es.toList[j]'(by simpa using hjl) = e0 := by
        have := hj; rw [List.getElem?_eq_getElem (by simpa using hjl)] at this; simpa using this
      by_cases hy : y = x
      · subst hy
        rw [upd_same]
        constructor
        · intro h; cases h
        · rintro ⟨e, he, h1, h2⟩
          exfalso
          obtain ⟨i, hi, hij, rfl⟩ := List.mem_eraseIdx_iff_getElem.1 he
          have := hs.one (List.getElem_mem hi) hmem (h1.trans hk.symm)
          rw [← hj0] at this
          have ha := List.pairwise_iff_getElem.1 hs.ages
          rcases Nat.lt_or_gt_of_ne hij with hlt' | hgt
          · exact ha i j hi (by simpa using hjl) hlt' (by rw [this])
          · exact ha j i (by simpa using hjl) hi hgt (by rw [this])
      · rw [upd_other _ _ hy, hs.says y u]
        constructor
        · rintro ⟨e, he, h1, h2⟩
          obtain ⟨i, hi, rfl⟩ := List.mem_iff_getElem.1 he
          have hij : i ≠ j := by
            rintro rfl
            rw [hj0] at h1
            exact hy (h1.symm.trans hk)
          exact ⟨es.toList[i], List.mem_eraseIdx_iff_getElem.2 ⟨i, hi, hij, rfl⟩, h1, h2⟩
        · rintro ⟨e, he, h1, h2⟩
          exact ⟨e, hsub.subset he, h1, h2⟩

/-- len(m). -/
theorem MapAt.len (h : MapAt P k w b n f) (ht : P.underlying t = some (.map k e)) (ty : TypeId) : (Builtin.len_ #[t] ty #[.map (some b)]).run P w = .ok (.int .i64 n) w := by
  obtain ⟨es, clock, hb, hn, hs⟩ := h
  subst hn
  simp [Builtin.len_, run_underlying ht, MapKept.run_getObj_map hb, goInt, Result.andThen]
end
end Go.Proofs.YtljabmkmngbhkaaGreatDoor
namespace Go.Proofs.YtljabmkmngbhkaaGreatDoor
open Go.RowKit
set_option linter.unusedVariables false
set_option linter.unusedSimpArgs false

def fptr (ids : List Nat) (i : Nat) : Value := .pointer (some ⟨ids.getD i 0, 0, none⟩)
def NTells (f : Value → Option Value) (ids : List Nat) (l : Names) : Prop := ∀ k v, f k = some v ↔ ∃ p ∈ l, k = .string p.1 ∧ v = fptr ids p.2
def tgt (ids : List Nat) : Option Nat → Value
  | none => .pointer none
  | some i => fptr ids i
def stepCells (ids : List Nat) (s : StepV) : List Value := s.flatMap fun c => [.string c.1, tgt ids c.2]
def blockAt (l : List Value) (i : Nat) : Option Nat := (l[i]?).bind Value.ownBlock
/-- Where the parts of a disk lie. -/
structure Lay where
  fv : Value
  qv : Value
  cv : Value
  nm : Nat
  lm : Nat
  dvs : List Value
  svs : List Value
def FFoot (ids : List Nat) (fv : Value) (dvs : List Value) (k : Nat) : Prop := k ∈ ids ∨ fv.ownBlock = some k ∨ ∃ i, blockAt dvs i = some k
def QFoot (qv : Value) (svs : List Value) (k : Nat) : Prop := qv.ownBlock = some k ∨ ∃ j, blockAt svs j = some k
/-- The files: the list of their pointers, each one's block, and its bytes. -/
structure DFiles (w : World) (ids : List Nat) (files : List FileV) (fv : Value) (dvs : List Value) : Prop where
  idn : ids.length = files.length
  own : Own w 251 1 fv ids.length (ids.map fun i => .pointer (some ⟨i, 0, none⟩))
  file : ∀ (i : Nat) (f : FileV), files[i]? = some f → ∃ id v, ids[i]? = some id ∧ dvs[i]? = some v ∧ Blk w id 273 #[v, .int .i64 f.lasts] ∧ Own w 5 1 v f.data.size (byteCells f.data)
  dvn : dvs.length = files.length
  idd : ids.Pairwise fun a b => a ≠ b
  dvd : ∀ i j k, i ≠ j → blockAt dvs i = some k → blockAt dvs j ≠ some k
/-- The queue: each step is a slice of changes. -/
structure DQueue (w : World) (ids : List Nat) (queue : List StepV) (qv : Value) (svs : List Value) : Prop where
  own : Own w 421 1 qv queue.length svs
  step : ∀ (j : Nat) (s : StepV), queue[j]? = some s → ∃ v, svs[j]? = some v ∧ Own w 312 2 v s.length (stepCells ids s)
/-- A map of names. -/
def NMap (w : World) (b : Nat) (ids : List Nat) (l : Names) : Prop := ∃ n f, MapAt Tryz.prog 9 w b n f ∧ NTells f ids l ∧ n = l.length
def intCells (l : List Int) : List Value := l.map fun n => .int .i64 n
def DFoot (d : Nat) (ids : List Nat) (y : Lay) (k : Nat) : Prop := k = d ∨ FFoot ids y.fv y.dvs k ∨ k = y.nm ∨ k = y.lm ∨ QFoot y.qv y.svs k ∨ y.cv.ownBlock = some k
structure DiskIn (w : World) (d : Nat) (ids : List Nat) (D : DiskV) (y : Lay) (M : Nat → Prop) : Prop where
  blk : Blk w d 93 #[.int .i64 D.room, y.fv, .map (some y.nm), .map (some y.lm), y.qv, .int .i64 D.cutL, .int .i64 D.cutN, y.cv, .int .i64 D.fullL, .int .i64 0, .slice none 0 0, .bool D.off]
  files : DFiles w ids D.files y.fv y.dvs
  names : NMap w y.nm ids D.names
  lasts : NMap w y.lm ids D.lasts
  two : y.nm ≠ y.lm
  queue : DQueue w ids D.queue y.qv y.svs
  cutb : Own w 3 1 y.cv D.cutB.length (intCells D.cutB)
  mine : ∀ k, DFoot d ids y k → M k
  lt : ∀ k, M k → k < w.heap.size
def DiskAt (w : World) (d : Nat) (ids : List Nat) (D : DiskV) (M : Nat → Prop) : Prop := DiskOk D ∧ ∃ y, DiskIn w d ids D y M
/-- What the disk may own behind a call: what it owned, and new blocks. -/
def Mx (M : Nat → Prop) (w w' : World) (k : Nat) : Prop := M k ∨ (w.heap.size ≤ k ∧ k < w'.heap.size)
def DPost (w : World) (d : Nat) (ids : List Nat) (M : Nat → Prop) (D' : DiskV) (w' : World) : Prop :=
  ∃ ids', DiskAt w' d ids' D' (Mx M w w') ∧ ids <+: ids' ∧ Chg M w w'

section
variable {w w' w1 w2 : World} {d : Nat} {ids : List Nat} {D D' : DiskV} {y : Lay} {M : Nat → Prop} {S : Nat → Prop} {files : List FileV} {fv qv : Value} {dvs svs : List Value} {queue : List StepV}
theorem blockAt_some {l : List Value} {i k : Nat} {v : Value} (h : l[i]? = some v) (hv : v.ownBlock = some k) : blockAt l i = some k := by unfold blockAt; rw [h]; exact hv
theorem blockAt_inv {l : List Value} {i k : Nat} (h : blockAt l i = some k) : ∃ v, l[i]? = some v ∧ v.ownBlock = some k := by
  unfold blockAt at h
  cases hl : l[i]? with
  | none => rw [hl] at h; cases h
  | some v => rw [hl] at h; exact ⟨v, rfl, h⟩
theorem NMap.chg {b : Nat} {l : Names} (h : NMap w b ids l) (hc : Chg S w w') (hb : ¬ S b) : NMap w' b ids l := by
  obtain ⟨n, f, hm, ht, hn⟩ := h
  exact ⟨n, f, hm.chg hc hb, ht, hn⟩
theorem NMap.ne_blk {b k : Nat} {l : Names} {t : TypeId} {cs : Array Value} (h : NMap w b ids l) (hb : Blk w k t cs) : k ≠ b := by
  obtain ⟨n, f, hm, _⟩ := h
  exact hb.ne_map hm
theorem DFiles.chg (h : DFiles w ids files fv dvs) (hc : Chg S w w') (hS : ∀ k, FFoot ids fv dvs k → ¬ S k) : DFiles w' ids files fv dvs :=
  ⟨h.idn, h.own.chg hc fun k hk => hS k (.inr (.inl hk)), fun i f hf => by
      obtain ⟨id, v, e1, e2, hb, ho⟩ := h.file i f hf
      exact ⟨id, v, e1, e2, hb.chg hc (hS _ (.inl (List.mem_of_getElem? e1))), ho.chg hc fun k hk => hS k (.inr (.inr ⟨i, blockAt_some e2 hk⟩))⟩, h.dvn, h.idd, h.dvd⟩
theorem DFiles.at_ (h : DFiles w ids files fv dvs) {i : Nat} (hi : i < files.length) : ∃ id v, ids[i]? = some id ∧ dvs[i]? = some v ∧ Blk w id 273 #[v, .int .i64 files[i].lasts] ∧ Own w 5 1 v files[i].data.size (byteCells files[i].data) :=
  h.file i _ (List.getElem?_eq_getElem hi)
theorem DFiles.typed (h : DFiles w ids files fv dvs) {k : Nat} (hk : FFoot ids fv dvs k) : ∃ t cs, Blk w k t cs ∧ (t = 273 ∨ t = 251 ∨ t = 5) := by
  rcases hk with hk | hk | ⟨i, hk⟩
  · obtain ⟨i, hi, rfl⟩ := List.mem_iff_getElem.1 hk
    obtain ⟨id, v, e1, _, hb, _⟩ := h.at_ (i := i) (by rw [← h.idn]; exact hi)
    rw [List.getElem?_eq_getElem hi] at e1
    cases e1
    exact ⟨_, _, hb, .inl rfl⟩
  · obtain ⟨cs, hb⟩ := h.own.typed hk
    exact ⟨_, _, hb, .inr (.inl rfl)⟩
  · obtain ⟨v, e, hv⟩ := blockAt_inv hk
    have hi : i < files.length := by rw [← h.dvn]; exact (List.getElem?_eq_some_iff.1 e).1
    obtain ⟨id, v', _, e2, _, ho⟩ := h.at_ hi
    rw [e] at e2; cases e2
    obtain ⟨cs, hb⟩ := ho.typed hv
    exact ⟨_, _, hb, .inr (.inr rfl)⟩
theorem DQueue.chg (h : DQueue w ids queue qv svs) (hc : Chg S w w') (hS : ∀ k, QFoot qv svs k → ¬ S k) : DQueue w' ids queue qv svs :=
  ⟨h.own.chg hc fun k hk => hS k (.inl hk), fun j s hs => by
    obtain ⟨v, e1, ho⟩ := h.step j s hs
    exact ⟨v, e1, ho.chg hc fun k hk => hS k (.inr ⟨j, blockAt_some e1 hk⟩)⟩⟩
theorem DQueue.typed (h : DQueue w ids queue qv svs) {k : Nat} (hk : QFoot qv svs k) : ∃ t cs, Blk w k t cs ∧ (t = 421 ∨ t = 312) := by
  rcases hk with hk | ⟨j, hk⟩
  · obtain ⟨cs, hb⟩ := h.own.typed hk
    exact ⟨_, _, hb, .inl rfl⟩
  · obtain ⟨v, e, hv⟩ := blockAt_inv hk
    have hl : svs.length = queue.length := by have := h.own.1; omega
    have hj : j < queue.length := by rw [← hl]; exact (List.getElem?_eq_some_iff.1 e).1
    obtain ⟨v', e2, ho⟩ := h.step j _ (List.getElem?_eq_getElem hj)
    rw [e] at e2; cases e2
    obtain ⟨cs, hb⟩ := ho.typed hv
    exact ⟨_, _, hb, .inr rfl⟩
theorem DiskIn.chg (h : DiskIn w d ids D y M) (hc : Chg S w w') (hS : ∀ k, M k → ¬ S k) : DiskIn w' d ids D y M :=
  { h with
    blk := h.blk.chg hc (hS _ (h.mine _ (.inl rfl))), files := h.files.chg hc fun k hk => hS k (h.mine k (.inr (.inl hk))), names := h.names.chg hc (hS _ (h.mine _ (.inr (.inr (.inl rfl))))), lasts := h.lasts.chg hc (hS _ (h.mine _ (.inr (.inr (.inr (.inl rfl)))))),
    queue := h.queue.chg hc fun k hk => hS k (h.mine k (.inr (.inr (.inr (.inr (.inl hk)))))), cutb := h.cutb.chg hc fun k hk => hS k (h.mine k (.inr (.inr (.inr (.inr (.inr hk)))))), lt := fun k hk => Nat.lt_of_lt_of_le (h.lt k hk) hc.size }
theorem DiskIn.same (h : DiskIn w d ids D y M) (hc : Chg (fun _ => False) w w') : DiskIn w' d ids D y M := h.chg hc (by simp)
theorem DiskIn.more {N : Nat → Prop} (h : DiskIn w d ids D y M) (hMN : ∀ k, M k → N k) (hlt : ∀ k, N k → k < w.heap.size) : DiskIn w d ids D y N :=
  { h with mine := fun k hk => hMN k (h.mine k hk), lt := hlt }
/-- The parts of a disk lie apart from each other. -/
theorem DiskIn.files_ne (h : DiskIn w d ids D y M) {k : Nat} (hk : FFoot ids y.fv y.dvs k) : k ≠ d ∧ k ≠ y.nm ∧ k ≠ y.lm ∧ ¬ QFoot y.qv y.svs k ∧ y.cv.ownBlock ≠ some k := by
  obtain ⟨t, cs, hb, ht⟩ := h.files.typed hk
  refine ⟨hb.ne_ h.blk (by rcases ht with rfl | rfl | rfl <;> decide), h.names.ne_blk hb, h.lasts.ne_blk hb, fun hq => ?_, fun hc => ?_⟩
  · obtain ⟨t', cs', hb', ht'⟩ := h.queue.typed hq
    exact hb.ne_ hb' (by rcases ht with rfl | rfl | rfl <;> rcases ht' with rfl | rfl <;> decide) rfl
  · obtain ⟨cs', hb'⟩ := h.cutb.typed hc
    exact hb.ne_ hb' (by rcases ht with rfl | rfl | rfl <;> decide) rfl
theorem DiskIn.queue_ne (h : DiskIn w d ids D y M) {k : Nat} (hk : QFoot y.qv y.svs k) : k ≠ d ∧ k ≠ y.nm ∧ k ≠ y.lm ∧ y.cv.ownBlock ≠ some k := by
  obtain ⟨t, cs, hb, ht⟩ := h.queue.typed hk
  refine ⟨hb.ne_ h.blk (by rcases ht with rfl | rfl <;> decide), h.names.ne_blk hb, h.lasts.ne_blk hb, fun hc => ?_⟩
  obtain ⟨cs', hb'⟩ := h.cutb.typed hc
  exact hb.ne_ hb' (by rcases ht with rfl | rfl <;> decide) rfl
theorem DiskIn.cut_ne (h : DiskIn w d ids D y M) {k : Nat} (hk : y.cv.ownBlock = some k) : k ≠ d ∧ k ≠ y.nm ∧ k ≠ y.lm := by
  obtain ⟨cs, hb⟩ := h.cutb.typed hk
  exact ⟨hb.ne_ h.blk (by decide), h.names.ne_blk hb, h.lasts.ne_blk hb⟩
theorem DiskIn.d_ne (h : DiskIn w d ids D y M) : d ≠ y.nm ∧ d ≠ y.lm := ⟨h.names.ne_blk h.blk, h.lasts.ne_blk h.blk⟩
/-- One file is another one; the data may lie elsewhere. -/
theorem DFiles.upd (h : DFiles w ids files fv dvs) {i id : Nat} {f f' : FileV} {v v' : Value} (hf : files[i]? = some f) (hid : ids[i]? = some id) (hv : dvs[i]? = some v) (hc : Chg S w w') (hS : ∀ k, FFoot ids fv dvs k → S k → k = id ∨ v.ownBlock = some k)
    (hb : Blk w' id 273 #[v', .int .i64 f'.lasts]) (ho : Own w' 5 1 v' f'.data.size (byteCells f'.data)) (hvb : ∀ k, v'.ownBlock = some k → v.ownBlock = some k ∨ w.heap.size ≤ k) : DFiles w' ids (files.set i f') fv (dvs.set i v') := by
  have hi : i < files.length := (List.getElem?_eq_some_iff.1 hf).1
  obtain ⟨id', v'', e1, e2, hb0, ho0⟩ := h.file i f hf
  rw [hid] at e1; cases e1
  rw [hv] at e2; cases e2
  have hne : ∀ k, FFoot ids fv dvs k → k ≠ id → v.ownBlock ≠ some k → ¬ S k := fun k hk h1 h2 hs => by
    rcases hS k hk hs with e | e
    · exact h1 e
    · exact h2 e
  refine ⟨by simpa using h.idn, h.own.chg hc fun k hk => hne k (.inr (.inl hk)) ?_ ?_, fun j g hg => ?_, by simpa using h.dvn, h.idd, fun a b k hab ha hbk => ?_⟩
  · obtain ⟨cs, hb'⟩ := h.own.typed hk
    exact hb'.ne_ hb0 (by decide)
  · intro e
    obtain ⟨cs, hb'⟩ := h.own.typed hk
    obtain ⟨cs2, hb2⟩ := ho0.typed e
    exact hb'.ne_ hb2 (by decide) rfl
  · by_cases hij : i = j
    · subst hij
      rw [List.getElem?_set_self hi] at hg
      cases hg
      exact ⟨id, v', hid, List.getElem?_set_self (by rw [h.dvn]; exact hi), hb, ho⟩
    · rw [List.getElem?_set_ne hij] at hg
      obtain ⟨jd, u, d1, d2, d3, d4⟩ := h.file j g hg
      refine ⟨jd, u, d1, by rw [List.getElem?_set_ne hij]; exact d2, d3.chg hc (hne jd (.inl (List.mem_of_getElem? d1)) ?_ ?_), d4.chg hc fun k hk => hne k (.inr (.inr ⟨j, blockAt_some d2 hk⟩)) ?_ ?_⟩
      · intro e
        have hp := List.pairwise_iff_getElem.1 h.idd
        obtain ⟨a1, a2⟩ := List.getElem?_eq_some_iff.1 hid
        obtain ⟨b1, b2⟩ := List.getElem?_eq_some_iff.1 d1
        rcases Nat.lt_or_gt_of_ne hij with hlt | hlt
        · exact hp i j a1 b1 hlt (by rw [a2, b2, e])
        · exact hp j i b1 a1 hlt (by rw [a2, b2, e])
      · intro e
        obtain ⟨cs2, hb2⟩ := ho0.typed e
        exact d3.ne_ hb2 (by decide) rfl
      · intro e
        obtain ⟨cs, hb'⟩ := d4.typed hk
        exact hb'.ne_ hb0 (by decide) e
      · intro e
        exact h.dvd i j k hij (blockAt_some hv e) (blockAt_some d2 hk)
  · obtain ⟨u, e1, hu⟩ := blockAt_inv ha
    obtain ⟨u', e2, hu'⟩ := blockAt_inv hbk
    have old : ∀ (c : Nat) (u : Value), (dvs.set i v')[c]? = some u → u.ownBlock = some k → (c ≠ i ∧ blockAt dvs c = some k) ∨ (c = i ∧ v'.ownBlock = some k) := fun c u hc hu => by
      by_cases hci : i = c
      · subst hci
        rw [List.getElem?_set_self (by rw [h.dvn]; exact hi)] at hc
        cases hc
        exact .inr ⟨rfl, hu⟩
      · rw [List.getElem?_set_ne hci] at hc
        exact .inl ⟨fun e => hci e.symm, blockAt_some hc hu⟩
    have fresh : ∀ c, blockAt dvs c = some k → v'.ownBlock = some k → c ≠ i → False := fun c hc hv' hci => by
      rcases hvb k hv' with e | e
      · exact h.dvd c i k hci hc (blockAt_some hv e)
      · obtain ⟨t, cs, hb', _⟩ := h.typed (.inr (.inr ⟨c, hc⟩))
        have := hb'.lt
        omega
    rcases old a u e1 hu with ⟨a1, a2⟩ | ⟨a1, a2⟩ <;> rcases old b u' e2 hu' with ⟨b1, b2⟩ | ⟨b1, b2⟩
    · exact h.dvd a b k hab a2 b2
    · exact fresh a a2 b2 a1
    · exact fresh b b2 a2 b1
    · exact hab (by rw [a1, b1])
theorem DiskAt.chg (h : DiskAt w d ids D M) (hc : Chg S w w') (hS : ∀ k, M k → ¬ S k) : DiskAt w' d ids D M := ⟨h.1, h.2.imp fun y hy => hy.chg hc hS⟩
theorem DiskAt.same (h : DiskAt w d ids D M) (hc : Chg (fun _ => False) w w') : DiskAt w' d ids D M := h.chg hc (by simp)
theorem DiskAt.lt (h : DiskAt w d ids D M) : ∀ k, M k → k < w.heap.size := by
  obtain ⟨_, y, hy⟩ := h
  exact hy.lt
theorem DiskAt.more {N : Nat → Prop} (h : DiskAt w d ids D M) (hMN : ∀ k, M k → N k) (hlt : ∀ k, N k → k < w.heap.size) : DiskAt w d ids D N := ⟨h.1, h.2.imp fun y hy => hy.more hMN hlt⟩
theorem mx_lt (hM : ∀ k, M k → k < w.heap.size) (hc : w.heap.size ≤ w'.heap.size) : ∀ k, Mx M w w' k → k < w'.heap.size := by
  rintro k (h | h)
  · exact Nat.lt_of_lt_of_le (hM k h) hc
  · exact h.2
theorem DPost.same (h : DiskAt w' d ids D M) (hM : ∀ k, M k → k < w.heap.size) (hc : Chg M w w') : DPost w d ids M D w' :=
  ⟨ids, h.more (fun k hk => .inl hk) (mx_lt hM hc.size), List.prefix_refl _, hc⟩
theorem DPost.trans {D1 D2 : DiskV} (h1 : DPost w d ids M D1 w1) (h2 : ∀ ids', DiskAt w1 d ids' D1 (Mx M w w1) → DPost w1 d ids' (Mx M w w1) D2 w2) : DPost w d ids M D2 w2 := by
  obtain ⟨ids1, ha, hp, hc⟩ := h1
  obtain ⟨ids2, hb, hq, hc2⟩ := h2 ids1 ha
  have h0 := hc.size
  have h1 := hc2.size
  refine ⟨ids2, hb.more ?_ ?_, hp.trans hq, hc.trans hc2 ?_⟩
  · rintro k ((h | h) | h)
    · exact .inl h
    · exact .inr ⟨h.1, by omega⟩
    · exact .inr ⟨by omega, h.2⟩
  · rintro k (h | h)
    · have := ha.lt k (.inl h); omega
    · exact h.2
  · rintro k hk (h | h)
    · exact h
    · omega
end

/-! ### Keys that are strings -/
theorem skey_law : Go.Maps.Keyed Tryz.prog 9 := Go.Maps.string_keyed Tryz.underlying9
theorem skey_of (s : ByteArray) (hs : s.size ≤ maxLen) : ∃ l, keyOf Tryz.prog 9 (.string s) = some l := by
  have h1 : decide (1 ≤ Tryz.prog.types.size) = true := by kernel_rfl
  obtain ⟨n, hn⟩ := Nat.exists_eq_add_of_le (of_decide_eq_true h1)
  have e1 : Tryz.prog.keyType 9 = true := by kernel_rfl
  have c1 : Tryz.prog.cellsOf 9 = 1 := by kernel_rfl
  unfold keyOf
  rw [Tryz.underlying9]
  exact ⟨.string s.data.toList, by simp [mapKey, Tryz.underlying9, hs]⟩
theorem zero_pfile (w : World) : (zeroValue 251).run Tryz.prog w = .ok (.pointer none) w := by kernel_rfl

theorem ntells_hit {f : Value → Option Value} {ids : List Nat} {l : Names} {n : ByteArray} {i : Nat} (h : NTells f ids l) (hl : look l n = some i) : f (.string n) = some (fptr ids i) :=
  (h _ _).2 ⟨_, look_some hl, rfl, rfl⟩
theorem ntells_miss {f : Value → Option Value} {ids : List Nat} {l : Names} {n : ByteArray} (h : NTells f ids l) (hl : look l n = none) : f (.string n) = none := by
  cases hf : f (.string n) with
  | none => rfl
  | some v =>
    obtain ⟨p, hp, e, _⟩ := (h _ _).1 hf
    injection e with e
    exact absurd e.symm (look_none hl p hp)

/-! ### The small contracts -/
theorem disk_may (d : Nat) (b : Bool) (w : World) (h : w.cell? ⟨d, 11, none⟩ = some (.bool b)) :
    Calls Tryz.prog 203 #[.pointer (some ⟨d, 0, none⟩)] w fun e w' => e = .returned (.int .i64 (if b then 13 else 0)) ∧ w = w' := by
  cases b with
  | true =>
    go_enter Tryz.func203, Tryz.ntmps203
    go_wp2
    go_ret
    exact ⟨rfl, rfl⟩
  | false =>
    go_enter Tryz.func203, Tryz.ntmps203
    go_wp2
    go_ret
    exact ⟨rfl, rfl⟩
/-- What find answers. -/
def findV (ids : List Nat) (D : DiskV) (n : ByteArray) : Value × Int := if D.off then (.pointer none, 13) else match look D.names n with | some i => (fptr ids i, 0) | none => (.pointer none, 10)
set_option maxRecDepth 100000 in
set_option maxHeartbeats 2000000 in
theorem disk_find (d : Nat) (ids : List Nat) (D : DiskV) (M : Nat → Prop) (n : ByteArray) (hn : n.size ≤ maxLen) (w : World) (h : DiskAt w d ids D M) :
    Calls Tryz.prog 170 #[.pointer (some ⟨d, 0, none⟩), .string n] w fun e w' => e = .returned (.tuple #[(findV ids D n).1, .int .i64 (findV ids D n).2]) ∧ w = w' := by
  obtain ⟨hok, y, h⟩ := h
  have c11 := h.blk.cell 11
  have c2 := h.blk.cell 2
  simp at c11 c2
  obtain ⟨l, hl⟩ := skey_of n hn
  obtain ⟨m, f, hm, ht, _⟩ := h.names
  have hmay := disk_may d D.off w c11
  unfold findV
  cases ho : D.off with
  | true =>
    rw [ho] at hmay
    have HM := Lib.hid hmay
    clear h hm ht hl hok ho hmay c11
    go_enter Tryz.func170, Tryz.ntmps170
    go_wp2_with fail
    refine HM.out.mono ?_
    rintro e w' ⟨rfl, rfl⟩
    go_wp2_with fail
    go_ret2
    exact ⟨rfl, rfl⟩
  | false =>
    rw [ho] at hmay
    have HM := Lib.hid hmay
    have hlk := hm.look skey_law Tryz.underlying87 (zero_pfile w) hl true
    cases hk : look D.names n with
    | none =>
      rw [ntells_miss ht hk] at hlk
      have hlk' : (Instr.lookup 87 (.map (some y.nm)) (.string n) true).run Tryz.prog w = .ok (.tuple #[.pointer none, .bool false]) w := hlk
      clear h hm ht hl hok ho hmay c11 hlk hk
      go_enter Tryz.func170, Tryz.ntmps170
      go_wp2_with fail
      refine HM.out.mono ?_
      rintro e w' ⟨rfl, rfl⟩
      go_wp2_with fail
      go_ret2
      exact ⟨rfl, rfl⟩
    | some i =>
      rw [ntells_hit ht hk] at hlk
      have hlk' : (Instr.lookup 87 (.map (some y.nm)) (.string n) true).run Tryz.prog w = .ok (.tuple #[.pointer (some ⟨ids.getD i 0, 0, none⟩), .bool true]) w := hlk
      show Calls _ _ _ _ fun e w' => e = .returned (.tuple #[.pointer (some ⟨ids.getD i 0, 0, none⟩), .int .i64 0]) ∧ w = w'
      generalize ids.getD i 0 = q at *
      clear h hm ht hl hok ho hmay c11 hlk hk
      go_enter Tryz.func170, Tryz.ntmps170
      go_wp2_with fail
      refine HM.out.mono ?_
      rintro e w' ⟨rfl, rfl⟩
      go_wp2_with fail
      go_ret2
      exact ⟨rfl, rfl⟩
theorem disk_good (n : ByteArray) (w : World) : Calls Tryz.prog 246 #[.string n] w fun e w' => e = .returned (.bool (goodN n)) ∧ w = w' := by
  by_cases h0 : n.size = 0
  · have hn : n = ⟨#[]⟩ := by
      cases n with | mk a => cases a with | mk l => cases l with | nil => rfl | cons x xs => simp [ByteArray.size] at h0
    subst hn
    go_enter Tryz.func246, Tryz.ntmps246
    go_wp2
    go_ret
    exact ⟨rfl, rfl⟩
  · have hne : ¬ n.toList = [] := fun e => h0 (by
      have : n.toList.length = n.size := by rw [ByteArray.toList_eq]; exact Array.length_toList
      rw [e] at this; simpa using this.symm)
    have hne2 : n.toList.isEmpty = false := by simp [hne]
    by_cases h1 : n.size ≤ 64
    · have hg : goodN n = true := by simp [goodN, h0, h1]
      have h1' : (n.size : Int) ≤ 64 := by omega
      rw [hg]
      go_enter Tryz.func246, Tryz.ntmps246
      go_wp2
      go_ret
      exact ⟨rfl, rfl⟩
    · have hg : goodN n = false := by simp [goodN, h0, h1]
      have h1' : ¬ (n.size : Int) ≤ 64 := by omega
      rw [hg]
      go_enter Tryz.func246, Tryz.ntmps246
      go_wp2
      go_ret
      exact ⟨rfl, rfl⟩
theorem disk_rest (n b : Int) (hb : 0 < b) (hb2 : b ≤ 9223372036854775807) (hn1 : -9223372036854775808 ≤ n) (hn2 : n ≤ 9223372036854775807) (w : World) : Calls Tryz.prog 315 #[.int .i64 n, .int .i64 b] w fun e w' => e = .returned (.int .i64 (restI n b)) ∧ w = w' := by
  unfold restI
  by_cases h : n < 0
  · rw [if_pos h]
    go_enter Tryz.func315, Tryz.ntmps315
    go_wp2
    go_ret
    refine ⟨?_, rfl⟩
    rw [Int.neg_tmod]
    rfl
  · rw [if_neg h, Int.tmod_eq_emod_of_nonneg (by omega)]
    go_enter Tryz.func315, Tryz.ntmps315
    go_wp2
    go_ret
    exact ⟨rfl, rfl⟩
theorem spring_zero (d o : Nat) (w : World) (h : w.cell? ⟨d, o, none⟩ = some (.int .i64 0)) :
    Calls Tryz.prog 261 #[.pointer (some ⟨d, o, none⟩)] w fun e w' => e = .returned (.bool false) ∧ w = w' := by
  go_enter Tryz.func261, Tryz.ntmps261
  go_wp2
  go_ret
  exact ⟨rfl, rfl⟩
theorem spring_some (d o : Nat) (l : Int) (h0 : 0 < l) (h1 : l ≤ 9223372036854775807) (w : World) (h : w.cell? ⟨d, o, none⟩ = some (.int .i64 l)) (hf : w.frozen? ⟨d, o, none⟩ = false) :
    Calls Tryz.prog 261 #[.pointer (some ⟨d, o, none⟩)] w fun e w' => e = .returned (.bool (l - 1 == 0)) ∧ w.setCell ⟨d, o, none⟩ (.int .i64 (l - 1)) = w' := by
  have hne : ¬ l = 0 := by omega
  go_enter Tryz.func261, Tryz.ntmps261
  go_wp2
  go_ret
  exact ⟨rfl, rfl⟩
end Go.Proofs.YtljabmkmngbhkaaGreatDoor
