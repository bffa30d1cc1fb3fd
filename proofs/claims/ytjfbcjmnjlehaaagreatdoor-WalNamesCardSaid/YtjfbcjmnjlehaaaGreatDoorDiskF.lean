/-
  The disk: what the calls do when they are done (the functions handed to change).
-/
import Derived.Test.YtjfbcjmnjlehaaaGreatDoorDiskE
import Derived.Deep.RegionLaw
namespace Go.Proofs.YtjfbcjmnjlehaaaGreatDoor
open Go.RowKit
set_option linter.unusedVariables false
set_option linter.unusedSimpArgs false

theorem info_pfile : (Tryz.prog.info? 126).map (fun i => (i.zero, i.size, i.bytes)) = some (some (.pointer none), 1, 8) := by kernel_rfl
theorem info_u8 : (Tryz.prog.info? 5).map (fun i => (i.zero, i.size, i.bytes)) = some (some (.int .u8 0), 1, 1) := by kernel_rfl
theorem stepCells_more {ids ids' : List Nat} (hp : ids <+: ids') : ∀ (s : StepV), (∀ c ∈ s, ∀ i, c.2 = some i → i < ids.length) → stepCells ids' s = stepCells ids s
  | [], _ => rfl
  | c :: s, h => by
    have ih := stepCells_more hp s fun d hd => h d (by simp [hd])
    unfold stepCells at ih ⊢
    rw [List.flatMap_cons, List.flatMap_cons, ih]
    congr 2
    unfold tgt
    cases hc : c.2 with
    | none => rfl
    | some i => simp only; rw [fptr_more hp (h c (by simp) i hc)]
theorem NMap.more {w : World} {b : Nat} {ids ids' : List Nat} {l : Names} (h : NMap w b ids l) (hp : ids <+: ids') (hl : ∀ p ∈ l, p.2 < ids.length) : NMap w b ids' l := by
  obtain ⟨n, f, hm, ht, hn⟩ := h
  exact ⟨n, f, hm, ht.more hp hl, hn⟩
/-- A new file, without bytes. -/
theorem DiskIn.addFile {w w' : World} {d : Nat} {ids : List Nat} {D : DiskV} {y : Lay} {M S : Nat → Prop} {id : Nat} {fv' : Value} (h : DiskIn w d ids D y M) (hok : DiskOk D) (hid : w.heap.size ≤ id) (hc : Chg S w w') (hS : ∀ k, k < w.heap.size → S k → k = d ∨ y.fv.ownBlock = some k)
    (hb : Blk w' id 132 #[.slice none 0 0, .int .i64 0]) (hf : Own w' 126 1 fv' (ids.length + 1) (ids.map (fun i => Value.pointer (some ⟨i, 0, none⟩)) ++ [.pointer (some ⟨id, 0, none⟩)])) (hfv : ∀ k, fv'.ownBlock = some k → y.fv.ownBlock = some k ∨ w.heap.size ≤ k)
    (hd : Blk w' d 67 #[.int .i64 D.room, fv', .map (some y.nm), .map (some y.lm), y.qv, .int .i64 D.cutL, .int .i64 D.cutN, y.cv, .int .i64 D.fullL, .int .i64 0, .slice none 0 0, .bool D.off]) :
    DiskIn w' d (ids ++ [id]) { D with files := D.files ++ [⟨⟨#[]⟩, 0⟩] } { y with fv := fv', dvs := y.dvs ++ [.slice none 0 0] } (Mx M w w') := by
  have hp : ids <+: ids ++ [id] := List.prefix_append _ _
  have hlt : ∀ k, DFoot d ids y k → k < w.heap.size := fun k hk => h.lt k (h.mine k hk)
  have hidn := h.files.idn
  have hdvn := h.files.dvn
  have hSn : ∀ k, DFoot d ids y k → k ≠ d → y.fv.ownBlock ≠ some k → ¬ S k := fun k hk h1 h2 hs => by
    rcases hS k (hlt k hk) hs with e | e
    · exact h1 e
    · exact h2 e
  have hfne : ∀ {k : Nat} {t : TypeId} {cs : Array Value}, Blk w k t cs → t ≠ 126 → y.fv.ownBlock ≠ some k := fun hb' ht e => by
    obtain ⟨cs', hb''⟩ := h.files.own.typed e
    exact hb'.ne_ hb'' ht rfl
  have hmn : ∀ {b : Nat} {l : Names}, NMap w b ids l → y.fv.ownBlock ≠ some b := fun hn e => by
    obtain ⟨cs', hb''⟩ := h.files.own.typed e
    exact hn.ne_blk hb'' rfl
  refine ⟨hd, ⟨by simp; omega, by simpa using hf, fun i f hf' => ?_, by simp; omega, ?_, ?_⟩, ?_, ?_, h.two, ⟨?_, ?_⟩, ?_, ?_, mx_lt h.lt hc.size⟩
  · by_cases hi : i < D.files.length
    · rw [List.getElem?_append_left hi] at hf'
      obtain ⟨id0, v, e1, e2, hb0, ho0⟩ := h.files.file i f hf'
      have hm : id0 ∈ ids := List.mem_of_getElem? e1
      refine ⟨id0, v, by rw [List.getElem?_append_left (by omega)]; exact e1, by rw [List.getElem?_append_left (by omega)]; exact e2, hb0.chg hc (hSn id0 (.inr (.inl (.inl hm))) (h.files_ne (.inl hm)).1 (hfne hb0 (by decide))), ho0.chg hc fun k hk => ?_⟩
      have hff : FFoot ids y.fv y.dvs k := .inr (.inr ⟨i, blockAt_some e2 hk⟩)
      obtain ⟨cs, hbk⟩ := ho0.typed hk
      exact hSn k (.inr (.inl hff)) (h.files_ne hff).1 (hfne hbk (by decide))
    · have hi0 : i = D.files.length := by
        have := (List.getElem?_eq_some_iff.1 hf').1
        simp at this; omega
      subst hi0
      rw [List.getElem?_append_right (by omega)] at hf'
      simp at hf'
      subst hf'
      exact ⟨id, .slice none 0 0, by rw [List.getElem?_append_right (by omega)]; simp [hidn], by rw [List.getElem?_append_right (by omega)]; simp [hdvn], hb, own_nil⟩
  · rw [List.pairwise_append]
    refine ⟨h.files.idd, by simp, fun a ha b hb' => ?_⟩
    simp at hb'; subst hb'
    have := hlt a (.inr (.inl (.inl ha)))
    omega
  · intro i j k hij hi hj
    have old : ∀ c, blockAt (y.dvs ++ [.slice none 0 0]) c = some k → blockAt y.dvs c = some k := fun c hc' => by
      obtain ⟨u, e1, hu⟩ := blockAt_inv hc'
      by_cases hcl : c < y.dvs.length
      · rw [List.getElem?_append_left hcl] at e1
        exact blockAt_some e1 hu
      · rw [List.getElem?_append_right (by omega)] at e1
        have : c - y.dvs.length = 0 := by
          have := (List.getElem?_eq_some_iff.1 e1).1
          simp at this; omega
        rw [this] at e1
        simp at e1
        subst e1
        simp [Value.ownBlock] at hu
    exact h.files.dvd i j k hij (old i hi) (old j hj)
  · exact (h.names.chg hc (hSn _ (.inr (.inr (.inl rfl))) h.d_ne.1.symm (hmn h.names))).more hp fun p hp' => by have := hok.names.lt p hp'; omega
  · exact (h.lasts.chg hc (hSn _ (.inr (.inr (.inr (.inl rfl)))) h.d_ne.2.symm (hmn h.lasts))).more hp fun p hp' => by have := hok.lasts.lt p hp'; omega
  · refine h.queue.own.chg hc fun k hk => ?_
    obtain ⟨cs, hbk⟩ := h.queue.own.typed hk
    exact hSn k (.inr (.inr (.inr (.inr (.inl (.inl hk)))))) (h.queue_ne (.inl hk)).1 (hfne hbk (by decide))
  · intro j s hs
    obtain ⟨v, e1, ho⟩ := h.queue.step j s hs
    refine ⟨v, e1, ?_⟩
    rw [stepCells_more hp s fun c hc' i hi => by have := (hok.queue s (List.mem_of_getElem? hs) c hc').2 i hi; omega]
    refine ho.chg hc fun k hk => ?_
    have hq : QFoot y.qv y.svs k := .inr ⟨j, blockAt_some e1 hk⟩
    obtain ⟨cs, hbk⟩ := ho.typed hk
    exact hSn k (.inr (.inr (.inr (.inr (.inl hq))))) (h.queue_ne hq).1 (hfne hbk (by decide))
  · refine h.cutb.chg hc fun k hk => ?_
    obtain ⟨cs, hbk⟩ := h.cutb.typed hk
    exact hSn k (.inr (.inr (.inr (.inr (.inr hk))))) (h.cut_ne hk).1 (hfne hbk (by decide))
  · have hm := h.mine
    rintro k (e | e | e | e | e | e)
    · exact .inl (hm k (.inl e))
    · rcases e with e | e | ⟨i, e⟩
      · rcases List.mem_append.1 e with e | e
        · exact .inl (hm k (.inr (.inl (.inl e))))
        · simp at e; subst e; exact .inr ⟨hid, hb.lt⟩
      · rcases hfv k e with e' | e'
        · exact .inl (hm k (.inr (.inl (.inr (.inl e')))))
        · obtain ⟨cs, hb'⟩ := hf.typed e
          exact .inr ⟨e', hb'.lt⟩
      · obtain ⟨u, e1, hu⟩ := blockAt_inv e
        by_cases hcl : i < y.dvs.length
        · rw [List.getElem?_append_left hcl] at e1
          exact .inl (hm k (.inr (.inl (.inr (.inr ⟨i, blockAt_some e1 hu⟩)))))
        · rw [List.getElem?_append_right (by omega)] at e1
          have : i - y.dvs.length = 0 := by
            have := (List.getElem?_eq_some_iff.1 e1).1
            simp at this; omega
          rw [this] at e1
          simp at e1
          subst e1
          simp [Value.ownBlock] at hu
    · exact .inl (hm k (.inr (.inr (.inl e))))
    · exact .inl (hm k (.inr (.inr (.inr (.inl e)))))
    · exact .inl (hm k (.inr (.inr (.inr (.inr (.inl e))))))
    · exact .inl (hm k (.inr (.inr (.inr (.inr (.inr e))))))
end Go.Proofs.YtjfbcjmnjlehaaaGreatDoor
