/-
  A map's entry, made and stored into (m[x]++ at a key that isn't there). Plain lemmas; no condition.
-/
import Derived.Test.YtafdgncjfiiekaaMap
namespace Go.Proofs.Ytafdgncjfiiekaa
open Go.RowKit
set_option linter.unusedVariables false
set_option linter.unusedSimpArgs false

section
variable {P : Program} {k e t : TypeId} {w : World} {b n : Nat} {f : Value → Option Value} {x : Value} {l : Lit}
theorem Says.push {es : Array MapEntry} {clock : Nat} (hs : Says P k es clock f) (hfx : f x = none) (hx : ∃ l, keyOf P k x = some l) (v : Value) : Says P k (es.push { key := x, val := v, born := clock }) (clock + 1) (upd f x (some v)) := by
  have hne := hs.none_ hfx
  refine ⟨fun e he => ?_, ?_, fun e he => ?_, ?_, fun y u => ?_⟩
  · simp only [Array.toList_push, List.mem_append, List.mem_singleton] at he
    rcases he with he | rfl
    · exact hs.keys e he
    · exact hx
  · rw [Array.toList_push, List.pairwise_append]
    exact ⟨hs.apart, by simp, fun a ha c hc => by simp only [List.mem_singleton] at hc; subst hc; exact hne a ha⟩
  · simp only [Array.toList_push, List.mem_append, List.mem_singleton] at he
    rcases he with he | rfl
    · exact Nat.lt_succ_of_lt (hs.born e he)
    · exact Nat.lt_succ_self _
  · rw [Array.toList_push, List.pairwise_append]
    exact ⟨hs.ages, by simp, fun a ha c hc => by simp only [List.mem_singleton] at hc; subst hc; have := hs.born a ha; simp; omega⟩
  · simp only [Array.toList_push, List.mem_append, List.mem_singleton]
    by_cases hy : y = x
    · subst hy
      rw [upd_same]
      constructor
      · intro hu; cases hu; exact ⟨_, .inr rfl, rfl, rfl⟩
      · rintro ⟨e, he | rfl, hke, hve⟩
        · exact absurd hke (hne e he)
        · simpa using hve
    · rw [upd_other _ _ hy, hs.says y u]
      constructor
      · rintro ⟨e, he, h1, h2⟩; exact ⟨e, .inl he, h1, h2⟩
      · rintro ⟨e, he | rfl, h1, h2⟩
        · exact ⟨e, he, h1, h2⟩
        · exact absurd h1.symm hy
/-- m[x] op= v, at a key that isn't there: the entry is made, then stored into. -/
theorem MapAt.entry (h : MapAt P k w b n f) (K : Go.Maps.Keyed P k) (ht : P.underlying t = some (.map k e)) {z : Value} (hz : (zeroValue e).run P w = .ok z w) (hx : keyOf P k x = some l) (hfx : f x = none) :
    ∃ (st : Nat) (w1 : World), (Instr.mapEntry t (.map (some b)) x).run P w = .ok (.tuple #[z, goInt st]) w1 ∧ Chg (fun k => k = b) w w1 ∧ w1.heap.size = w.heap.size ∧ MapAt P k w1 b (n + 1) (upd f x (some z)) ∧
      ∀ v w2, w2.heap[b]? = w1.heap[b]? → ∃ w3, (Instr.entryStore t (.map (some b)) (goInt st) v).run P w2 = .ok () w3 ∧ MapAt P k w3 b (n + 1) (upd f x (some v)) ∧ Chg (fun k => k = b) w2 w3 ∧ w3.heap.size = w2.heap.size := by
  have hlt := h.lt
  obtain ⟨es, clock, hb, hn, hs⟩ := h
  have hobj := MapKept.run_getObj_map (P := P) hb
  have hck := K.check w false hx
  have hne := hs.none_ hfx
  have hset : ∀ (w : World) (es : Array MapEntry) (c : Nat), w.heap[b]? = some (.map es c) → ∀ o : Obj, (∀ c t fr, o ≠ .cells c t fr) → (setObj b o).run P w = .ok () (put w b o) := fun w es c hb o ho => by
    simp [setObj, Sem.run, hb, put]
  rcases K.find w hx es.toList hs.keys with ⟨hf, _⟩ | ⟨j, e0, hf, hj, hk⟩
  · refine ⟨clock, put w b (.map (es.push { key := x, val := z, born := clock }) (clock + 1)), ?_, put_chg _ _ _, put_size _ _ _, ⟨_, _, put_same _ _ _ hlt, by simp [hn], hs.push hfx ⟨l, hx⟩ z⟩, fun v w2 h2 => ?_⟩
    · unfold Instr.mapEntry
      simp [run_underlying ht, hobj, hck, hf, hset w es clock hb, hz, Result.andThen]
    · rw [put_same _ _ _ hlt] at h2
      have hlt2 : b < w2.heap.size := (Array.getElem?_eq_some_iff.1 h2).1
      have hobj2 := MapKept.run_getObj_map (P := P) h2
      have hidx : (es.push { key := x, val := z, born := clock }).findIdx? (fun e => ((e.born : Int) == (clock : Int))) = some es.size := by
        rw [Array.findIdx?_push]
        have : es.findIdx? (fun e => ((e.born : Int) == (clock : Int))) = none := by
          rw [Array.findIdx?_eq_none_iff]
          intro a ha
          have := hs.born a (by simpa using ha)
          simp; omega
        simp [this]
      have hmod : (es.push { key := x, val := z, born := clock }).modify es.size (fun e => { e with val := v }) = es.push { key := x, val := v, born := clock } := by
        apply Array.ext
        · simp
        · intro i h1 h2
          simp only [Array.getElem_modify, Array.getElem_push]
          split
          · rename_i he; subst he; simp
          · rename_i hne'
            have hil : i < es.size := by simp at h2; omega
            simp [hil]
      refine ⟨put w2 b (.map (es.push { key := x, val := v, born := clock }) (clock + 1)), ?_, ⟨_, _, put_same _ _ _ hlt2, by simp [hn], hs.push hfx ⟨l, hx⟩ v⟩, put_chg _ _ _, put_size _ _ _⟩
      unfold Instr.entryStore
      simp [hobj2, asInt, asIntOf, goInt, hidx, hmod, hset w2 _ _ h2, Result.andThen]
  · exact absurd hk (hne e0 (List.mem_of_getElem? hj))
end
end Go.Proofs.Ytafdgncjfiiekaa
