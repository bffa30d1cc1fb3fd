/-
  The disk: what the calls do when they are done (the functions handed to change).
  The disk: the functions handed to change.
-/
import Derived.Test.YtljabmkmngbhkaaGreatDoorZDiskE
import Derived.Deep.RegionLaw
namespace Go.Proofs.YtljabmkmngbhkaaGreatDoor
open Go.RowKit
set_option linter.unusedVariables false
set_option linter.unusedSimpArgs false

theorem info_pfile : (Tryz.prog.info? 251).map (fun i => (i.zero, i.size, i.bytes)) = some (some (.pointer none), 1, 8) := by kernel_rfl
theorem info_u8 : (Tryz.prog.info? 5).map (fun i => (i.zero, i.size, i.bytes)) = some (some (.int .u8 0), 1, 1) := by kernel_rfl
theorem stepCells_more {ids ids' : List Nat} (hp : ids <+: ids') : ∀ (s : StepV), (∀ c ∈ s, ∀ i, c.2 = some i → i < ids.length) → stepCells ids' s = stepCells ids s
  | [], _ => rfl
  | c :: s, h => by
    have ih := stepCells_more hp s fun d hd => h d (by simp [hd])
    unfold stepCells at ih ⊢
    rw [List.flatMap_cons, List.flatMap_cons, ih]
    congr 2
    unfold tgt
    cases hc : c.2 with
    | none => rfl
    | some i => simp only; rw [fptr_more hp (h c (by simp) i hc)]
theorem NMap.more {w : World} {b : Nat} {ids ids' : List Nat} {l : Names} (h : NMap w b ids l) (hp : ids <+: ids') (hl : ∀ p ∈ l, p.2 < ids.length) : NMap w b ids' l := by
  obtain ⟨n, f, hm, ht, hn⟩ := h
  exact ⟨n, f, hm, ht.more hp hl, hn⟩
/-- A new file, without bytes. -/
theorem DiskIn.addFile {w w' : World} {d : Nat} {ids : List Nat} {D : DiskV} {y : Lay} {M S : Nat → Prop} {id : Nat} {fv' : Value} (h : DiskIn w d ids D y M) (hok : DiskOk D) (hid : w.heap.size ≤ id) (hc : Chg S w w') (hS : ∀ k, k < w.heap.size → S k → k = d ∨ y.fv.ownBlock = some k)
    (hb : Blk w' id 273 #[.slice none 0 0, .int .i64 0]) (hf : Own w' 251 1 fv' (ids.length + 1) (ids.map (fun i => Value.pointer (some ⟨i, 0, none⟩)) ++ [.pointer (some ⟨id, 0, none⟩)])) (hfv : ∀ k, fv'.ownBlock = some k → y.fv.ownBlock = some k ∨ w.heap.size ≤ k)
    (hd : Blk w' d 93 #[.int .i64 D.room, fv', .map (some y.nm), .map (some y.lm), y.qv, .int .i64 D.cutL, .int .i64 D.cutN, y.cv, .int .i64 D.fullL, .int .i64 0, .slice none 0 0, .bool D.off]) :
    DiskIn w' d (ids ++ [id]) { D with files := D.files ++ [⟨⟨#[]⟩, 0⟩] } { y with fv := fv', dvs := y.dvs ++ [.slice none 0 0] } (Mx M w w') := by
  have hp : ids <+: ids ++ [id] := List.prefix_append _ _
  have hlt : ∀ k, DFoot d ids y k → k < w.heap.size := fun k hk => h.lt k (h.mine k hk)
  have hidn := h.files.idn
  have hdvn := h.files.dvn
  have hSn : ∀ k, DFoot d ids y k → k ≠ d → y.fv.ownBlock ≠ some k → ¬ S k := fun k hk h1 h2 hs => by
    rcases hS k (hlt k hk) hs with e | e
    · exact h1 e
    · exact h2 e
  have hfne : ∀ {k : Nat} {t : TypeId} {cs : Array Value}, Blk w k t cs → t ≠ 251 → y.fv.ownBlock ≠ some k := fun hb' ht e => by
    obtain ⟨cs', hb''⟩ := h.files.own.typed e
    exact hb'.ne_ hb'' ht rfl
  have hmn : ∀ {b : Nat} {l : Names}, NMap w b ids l → y.fv.ownBlock ≠ some b := fun hn e => by
    obtain ⟨cs', hb''⟩ := h.files.own.typed e
    exact hn.ne_blk hb'' rfl
  refine ⟨hd, ⟨by simp; omega, by simpa using hf, fun i f hf' => ?_, by simp; omega, ?_, ?_⟩, ?_, ?_, h.two, ⟨?_, ?_⟩, ?_, ?_, mx_lt h.lt hc.size⟩
  · by_cases hi : i < D.files.length
    · rw [List.getElem?_append_left hi] at hf'
      obtain ⟨id0, v, e1, e2, hb0, ho0⟩ := h.files.file i f hf'
      have hm : id0 ∈ ids := List.mem_of_getElem? e1
      refine ⟨id0, v, by rw [List.getElem?_append_left (by omega)]; exact e1, by rw [List.getElem?_append_left (by omega)]; exact e2, hb0.chg hc (hSn id0 (.inr (.inl (.inl hm))) (h.files_ne (.inl hm)).1 (hfne hb0 (by decide))), ho0.chg hc fun k hk => ?_⟩
      have hff : FFoot ids y.fv y.dvs k := .inr (.inr ⟨i, blockAt_some e2 hk⟩)
      obtain ⟨cs, hbk⟩ := ho0.typed hk
      exact hSn k (.inr (.inl hff)) (h.files_ne hff).1 (hfne hbk (by decide))
    · have hi0 : i = D.files.length := by
        have := (List.getElem?_eq_some_iff.1 hf').1
        simp at this; omega
      subst hi0
      rw [List.getElem?_append_right (by omega)] at hf'
      simp at hf'
      subst hf'
      exact ⟨id, .slice none 0 0, by rw [List.getElem?_append_right (by omega)]; simp [hidn], by rw [List.getElem?_append_right (by omega)]; simp [hdvn], hb, own_nil⟩
  · rw [List.pairwise_append]
    refine ⟨h.files.idd, by simp, fun a ha b hb' => ?_⟩
    simp at hb'; subst hb'
    have := hlt a (.inr (.inl (.inl ha)))
    omega
  · intro i j k hij hi hj
    have old : ∀ c, blockAt (y.dvs ++ [.slice none 0 0]) c = some k → blockAt y.dvs c = some k := fun c hc' => by
      obtain ⟨u, e1, hu⟩ := blockAt_inv hc'
      by_cases hcl : c < y.dvs.length
      · rw [List.getElem?_append_left hcl] at e1
        exact blockAt_some e1 hu
      · rw [List.getElem?_append_right (by omega)] at e1
        have : c - y.dvs.length = 0 := by
          have := (List.getElem?_eq_some_iff.1 e1).1
          simp at this; omega
        rw [this] at e1
        simp at e1
        subst e1
        simp [Value.ownBlock] at hu
    exact h.files.dvd i j k hij (old i hi) (old j hj)
  · exact (h.names.chg hc (hSn _ (.inr (.inr (.inl rfl))) h.d_ne.1.symm (hmn h.names))).more hp fun p hp' => by have := hok.names.lt p hp'; omega
  · exact (h.lasts.chg hc (hSn _ (.inr (.inr (.inr (.inl rfl)))) h.d_ne.2.symm (hmn h.lasts))).more hp fun p hp' => by have := hok.lasts.lt p hp'; omega
  · refine h.queue.own.chg hc fun k hk => ?_
    obtain ⟨cs, hbk⟩ := h.queue.own.typed hk
    exact hSn k (.inr (.inr (.inr (.inr (.inl (.inl hk)))))) (h.queue_ne (.inl hk)).1 (hfne hbk (by decide))
  · intro j s hs
    obtain ⟨v, e1, ho⟩ := h.queue.step j s hs
    refine ⟨v, e1, ?_⟩
    rw [stepCells_more hp s fun c hc' i hi => by have := (hok.queue s (List.mem_of_getElem? hs) c hc').2 i hi; omega]
    refine ho.chg hc fun k hk => ?_
    have hq : QFoot y.qv y.svs k := .inr ⟨j, blockAt_some e1 hk⟩
    obtain ⟨cs, hbk⟩ := ho.typed hk
    exact hSn k (.inr (.inr (.inr (.inr (.inl hq))))) (h.queue_ne hq).1 (hfne hbk (by decide))
  · refine h.cutb.chg hc fun k hk => ?_
    obtain ⟨cs, hbk⟩ := h.cutb.typed hk
    exact hSn k (.inr (.inr (.inr (.inr (.inr hk))))) (h.cut_ne hk).1 (hfne hbk (by decide))
  · have hm := h.mine
    rintro k (e | e | e | e | e | e)
    · exact .inl (hm k (.inl e))
    · rcases e with e | e | ⟨i, e⟩
      · rcases List.mem_append.1 e with e | e
        · exact .inl (hm k (.inr (.inl (.inl e))))
        · simp at e; subst e; exact .inr ⟨hid, hb.lt⟩
      · rcases hfv k e with e' | e'
        · exact .inl (hm k (.inr (.inl (.inr (.inl e')))))
        · obtain ⟨cs, hb'⟩ := hf.typed e
          exact .inr ⟨e', hb'.lt⟩
      · obtain ⟨u, e1, hu⟩ := blockAt_inv e
        by_cases hcl : i < y.dvs.length
        · rw [List.getElem?_append_left hcl] at e1
          exact .inl (hm k (.inr (.inl (.inr (.inr ⟨i, blockAt_some e1 hu⟩)))))
        · rw [List.getElem?_append_right (by omega)] at e1
          have : i - y.dvs.length = 0 := by
            have := (List.getElem?_eq_some_iff.1 e1).1
            simp at this; omega
          rw [this] at e1
          simp at e1
          subst e1
          simp [Value.ownBlock] at hu
    · exact .inl (hm k (.inr (.inr (.inl e))))
    · exact .inl (hm k (.inr (.inr (.inr (.inl e)))))
    · exact .inl (hm k (.inr (.inr (.inr (.inr (.inl e))))))
    · exact .inl (hm k (.inr (.inr (.inr (.inr (.inr e))))))
end Go.Proofs.YtljabmkmngbhkaaGreatDoor
namespace Go.Proofs.YtljabmkmngbhkaaGreatDoor
open Go.RowKit
set_option linter.unusedVariables false
set_option linter.unusedSimpArgs false

theorem DPost.of_more {W W1 w' : World} {d : Nat} {ids ids' : List Nat} {M : Nat → Prop} {D' : DiskV} (hM : ∀ k, M k → k < W.heap.size) (hc1 : Chg M W W1) (hok : DiskOk D') (h : ∃ y', DiskIn w' d ids' D' y' (Mx (Mx M W W1) W1 w')) (hc2 : Chg (Mx M W W1) W1 w') (hp : ids <+: ids') : DPost W d ids M D' w' := by
  obtain ⟨y', h⟩ := h
  have s1 := hc1.size
  have s2 := hc2.size
  refine ⟨ids', ⟨hok, y', h.more (mx_mx s1 s2) (mx_lt hM (by omega))⟩, hp, hc1.trans hc2 fun k hk e => ?_⟩
  rcases e with e | e
  · exact e
  · omega
theorem box_own {w : World} {t e : TypeId} {cs : Array Value} {g n size : Nat} (h : Blk w g e cs) (hs : cs.size = n * size) (hm : n ≤ maxLen) : Own w e size (.slice (some ⟨g, 0, none⟩) n n) n cs.toList :=
  ⟨by simpa using hs, .inr ⟨g, n, cs, rfl, h, Nat.le_refl _, hm, by omega, by rw [List.take_of_length_le]; simp; omega⟩⟩

theorem modify_set {α : Type} (l : List α) (i : Nat) (hi : i < l.length) (g : α → α) : l.modify i g = l.set i (g l[i]) := by
  apply List.ext_getElem?
  intro j
  rw [List.getElem?_modify]
  by_cases hj : i = j
  · subst hj
    rw [List.getElem?_set_self hi, List.getElem?_eq_getElem hi]
    simp
  · rw [List.getElem?_set_ne hj]
    simp [hj]
theorem str_ne {a b : ByteArray} (h : ¬ a = b) : (a.toList == b.toList) = false := by
  rw [beq_eq_false_iff_ne]
  intro e
  rw [ByteArray.toList_eq, ByteArray.toList_eq] at e
  apply h
  cases a with | mk x => cases b with | mk y => simp only [ByteArray.mk.injEq]; exact Array.toList_inj.1 e
section
variable (d bd bn : Nat) (n : ByteArray) (ids : List Nat) (D : DiskV) (y : Lay) (M : Nat → Prop) (W : World)

set_option maxRecDepth 100000 in
set_option maxHeartbeats 2000000 in
theorem act_remove (hok : DiskOk D) (hq : D.queue.length ≤ 999999999) (hn : n.size ≤ 64) (h : DiskIn W d ids D y M) (hd : Blk W bd 36 #[.pointer (some ⟨d, 0, none⟩)]) (hnb : Blk W bn 9 #[.string n]) :
    Calls Tryz.prog 206 #[.pointer (some ⟨bd, 0, none⟩), .pointer (some ⟨bn, 0, none⟩)] W fun e W' => e = .returned (.tuple #[]) ∧ DPost W d ids M (removeA n D) W' := by
  have z0 := hd.cell 0
  have z1 := hnb.cell 0
  simp at z0 z1
  obtain ⟨W1, hW1⟩ : ∃ W1, W1 = W.alloc (.cells #[.string n, .pointer none] 312) := ⟨_, rfl⟩
  have hc1 : Chg (fun _ => False) W W1 := by rw [hW1]; exact cgS
  have hnew : Blk W1 W.heap.size 312 #[.string n, .pointer none] := by rw [hW1]; exact Blk.new W _ _
  have hs1 : W1.heap.size = W.heap.size + 1 := by rw [hW1]; simp
  have hown := box_own (t := 0) (n := 1) (size := 2) hnew rfl (by decide)
  have hst : StepOk [(n, none)] D.files.length := fun c hc => by simp at hc; subst hc; exact ⟨hn, fun i hi => by cases hi⟩
  have h1 := (h.same hc1).more (N := Mx M W W1) (fun k hk => .inl hk) (mx_lt h.lt hc1.size)
  have hren := disk_rename1 d ids D y (Mx M W W1) [(n, none)] (.slice (some ⟨W.heap.size, 0, none⟩) 1 1) hok hst (by omega) W1 h1 (by simpa [stepCells, tgt] using hown) (fun k hk => by simp [Value.ownBlock] at hk; subst hk; exact .inr ⟨Nat.le_refl _, by omega⟩)
  have HREN := Lib.hid hren
  have HW1 := Lib.hid hW1
  have HC1 := Lib.hid hc1
  have HOK := Lib.hid hok
  have HLT := Lib.hid h.lt
  clear hren hW1 hc1 hnew hs1 hown hst h1 h hd hnb hok
  go_enter Tryz.func206, Tryz.ntmps206
  go_wp2_with fail
  rw [← HW1.out]
  refine HREN.out.mono ?_
  rintro e W2 ⟨rfl, hy, hc2⟩
  have HY := Lib.hid hy
  have HC2 := Lib.hid hc2
  clear hy hc2
  go_wp2_with fail
  first | go_end0 | refine bodyPost_ret (results_none rfl _ _ _) rfl ?_
  exact ⟨rfl, DPost.of_more HLT.out (HC1.out.mono (by simp)) (remove_ok HOK.out hn) HY.out HC2.out (List.prefix_refl _)⟩

set_option maxRecDepth 100000 in
set_option maxHeartbeats 2000000 in
theorem act_rename (b : ByteArray) (bb bf i : Nat) (hok : DiskOk D) (hq : D.queue.length ≤ 999999999) (hn : n.size ≤ 64) (hb : b.size ≤ 64) (hi : i < D.files.length) (h : DiskIn W d ids D y M) (hnb : Blk W bn 9 #[.string n]) (hbb : Blk W bb 9 #[.string b]) (hd : Blk W bd 36 #[.pointer (some ⟨d, 0, none⟩)]) (hf : Blk W bf 251 #[fptr ids i]) :
    Calls Tryz.prog 311 #[.pointer (some ⟨bn, 0, none⟩), .pointer (some ⟨bb, 0, none⟩), .pointer (some ⟨bd, 0, none⟩), .pointer (some ⟨bf, 0, none⟩)] W fun e W' => e = .returned (.tuple #[]) ∧ DPost W d ids M (renameA n b i D) W' := by
  have z0 := hnb.cell 0
  have z1 := hbb.cell 0
  have z2 := hd.cell 0
  have z3 := hf.cell 0
  simp at z0 z1 z2 z3
  have hokr := rename_ok hok hi hn hb
  by_cases he : n = b
  · subst he
    have hpost : DPost W d ids M (renameA n n i D) W := by unfold renameA; rw [if_pos rfl]; exact DPost.same ⟨hok, y, h⟩ h.lt (Chg.refl _ _)
    have HP := Lib.hid hpost
    clear hpost h hok hokr hd hnb hbb hf z2 z3
    go_enter Tryz.func311, Tryz.ntmps311
    go_wp2_with fail
    first | go_end0 | refine bodyPost_ret (results_none rfl _ _ _) rfl ?_
    exact ⟨rfl, HP.out⟩
  · obtain ⟨W1, hW1⟩ : ∃ W1, W1 = W.alloc (.cells #[.string b, .pointer (some ⟨ids.getD i 0, 0, none⟩), .string n, .pointer none] 312) := ⟨_, rfl⟩
    have hc1 : Chg (fun _ => False) W W1 := by rw [hW1]; exact cgS
    have hnew : Blk W1 W.heap.size 312 #[.string b, .pointer (some ⟨ids.getD i 0, 0, none⟩), .string n, .pointer none] := by rw [hW1]; exact Blk.new W _ _
    have hs1 : W1.heap.size = W.heap.size + 1 := by rw [hW1]; simp
    have hown := box_own (t := 0) (n := 2) (size := 2) hnew rfl (by decide)
    have hst : StepOk [(b, some i), (n, none)] D.files.length := fun c hc => by
      simp at hc
      rcases hc with rfl | rfl
      · exact ⟨hb, fun j hj => by cases hj; exact hi⟩
      · exact ⟨hn, fun j hj => by cases hj⟩
    have h1 := (h.same hc1).more (N := Mx M W W1) (fun k hk => .inl hk) (mx_lt h.lt hc1.size)
    have hren := disk_rename1 d ids D y (Mx M W W1) [(b, some i), (n, none)] (.slice (some ⟨W.heap.size, 0, none⟩) 2 2) hok hst (by omega) W1 h1 (by simpa [stepCells, tgt, fptr] using hown) (fun k hk => by simp [Value.ownBlock] at hk; subst hk; exact .inr ⟨Nat.le_refl _, by omega⟩)
    have hra : rename1 [(b, some i), (n, none)] D = renameA n b i D := by unfold renameA; rw [if_neg he]
    rw [hra] at hren
    unfold fptr at z3
    generalize ids.getD i 0 = q at *
    have HREN := Lib.hid hren
    have HW1 := Lib.hid hW1
    have HC1 := Lib.hid hc1
    have HOK := Lib.hid hokr
    have HLT := Lib.hid h.lt
    clear hren hW1 hc1 hnew hs1 hown hst h1 h hd hnb hbb hf hok hokr hra
    have hbeq := str_ne he
    clear he
    go_enter Tryz.func311, Tryz.ntmps311
    go_wp2_with fail
    rw [← HW1.out]
    refine HREN.out.mono ?_
    rintro e W2 ⟨rfl, hy, hc2⟩
    have HY := Lib.hid hy
    have HC2 := Lib.hid hc2
    clear hy hc2
    go_wp2_with fail
    first | go_end0 | refine bodyPost_ret (results_none rfl _ _ _) rfl ?_
    exact ⟨rfl, DPost.of_more HLT.out (HC1.out.mono (by simp)) HOK.out HY.out HC2.out (List.prefix_refl _)⟩

set_option maxRecDepth 100000 in
set_option maxHeartbeats 2000000 in
theorem act_sync (bf i : Nat) (hok : DiskOk D) (hi : i < D.files.length) (h : DiskIn W d ids D y M) (hf : Blk W bf 251 #[fptr ids i]) :
    Calls Tryz.prog 174 #[.pointer (some ⟨bf, 0, none⟩)] W fun e W' => e = .returned (.tuple #[]) ∧ DPost W d ids M (syncA i D) W' := by
  obtain ⟨id, v, e1, e2, hb, ho⟩ := h.files.at_ hi
  obtain ⟨va, vc, hvv, _, _, _⟩ := ho.reads
  have hfok := hok.file _ (List.getElem_mem hi)
  have z0 := hf.cell 0
  simp at z0
  unfold fptr at z0
  rw [List.getD_eq_getElem?_getD, e1] at z0
  simp at z0
  have y0 := hb.cell 0
  have y1 := hb.cell 1
  have f1 := hb.frozen 1
  simp at y0 y1
  rw [hvv] at y0
  have hne : ∀ k, v.ownBlock = some k → k ≠ id := fun k hk => by
    obtain ⟨cs, hb'⟩ := ho.typed hk
    exact hb'.ne_ hb (by decide)
  have hkey : ∀ W1 W2, Chg (fun _ => False) W W1 → Chg (fun _ => False) (W1.setCell ⟨id, 1, none⟩ (.int .i64 D.files[i].data.size)) W2 → DPost W d ids M (syncA i D) W2 := by
    intro W1 W2 hc1 hc2
    have hset : Chg (fun k => k = id) W1 (W1.setCell ⟨id, 1, none⟩ (.int .i64 D.files[i].data.size)) := Chg.setOwn (Chg.refl _ _) _ _
    have hc : Chg (fun k => k = id) W W2 := ((hc1.mono (by simp)).then hset).then (hc2.mono (by simp))
    have hbW := ((hb.chg hc1 (by simp)).set_ 1 (.int .i64 D.files[i].data.size)).chg hc2 (by simp)
    obtain ⟨h1, _⟩ := h.setFile (f' := ⟨D.files[i].data, D.files[i].data.size⟩) (v' := v) (List.getElem?_eq_getElem hi) e1 e2 hc (fun k _ e => .inl e) (by simpa using hbW) (ho.chg hc fun k hk => hne k hk) (fun k hk => .inl hk)
    refine ⟨ids, ⟨setF_ok hok fun f hf' => ?_, ?_⟩, List.prefix_refl _, hc.mono fun k _ e => ?_⟩
    · rw [List.getElem?_eq_getElem hi] at hf'
      cases hf'
      exact ⟨Nat.le_refl _, hfok.2⟩
    · refine ⟨{ y with dvs := y.dvs.set i v }, ?_⟩
      have he : syncA i D = { D with files := D.files.set i ⟨D.files[i].data, D.files[i].data.size⟩ } := by
        unfold syncA setF
        rw [modify_set _ _ hi]
      rw [he]
      exact h1
    · rw [e]; exact h.mine _ (.inr (.inl (.inl (List.mem_of_getElem? e1))))
  have HKEY := Lib.hid hkey
  generalize D.files[i].data.size = sz at *
  clear hkey h hok hf hb ho hne hvv e1 e2 hfok
  go_enter Tryz.func174, Tryz.ntmps174
  go_wp2_with fail
  go_region
  all_goals
    go_wp2_with fail
    first | go_end0 | refine bodyPost_ret (results_none rfl _ _ _) rfl ?_
    exact ⟨rfl, HKEY.out _ _ (Chg.refl _ W) ((Chg.refl _ _).drewN _)⟩

theorem byteCells_append (a b : ByteArray) : byteCells (a ++ b) = byteCells a ++ byteCells b := by
  unfold byteCells
  rw [← List.map_append]
  congr 1

set_option maxRecDepth 100000 in
set_option maxHeartbeats 4000000 in
theorem act_append (bf bs i : Nat) (s : ByteArray) (hok : DiskOk D) (hi : i < D.files.length) (hsz : D.files[i].data.size + s.size ≤ 1048576) (h : DiskIn W d ids D y M) (hf : Blk W bf 251 #[fptr ids i]) (hsb : Blk W bs 9 #[.string s]) :
    Calls Tryz.prog 173 #[.pointer (some ⟨bf, 0, none⟩), .pointer (some ⟨bs, 0, none⟩)] W fun e W' => e = .returned (.tuple #[]) ∧ DPost W d ids M (appendA i s D) W' := by
  obtain ⟨i0, hi0, hz0, hz1, hz2⟩ := info_parts info_u8
  obtain ⟨id, v, e1, e2, hb, ho⟩ := h.files.at_ hi
  obtain ⟨va, vc, hvv, _, _, _⟩ := ho.reads
  have hfok := hok.file _ (List.getElem_mem hi)
  have z0 := hf.cell 0
  have z1 := hsb.cell 0
  simp at z0 z1
  unfold fptr at z0
  rw [List.getD_eq_getElem?_getD, e1] at z0
  simp at z0
  have y0 := hb.cell 0
  have f0 := hb.frozen 0
  simp at y0
  rw [hvv] at y0
  have hne : ∀ k, v.ownBlock = some k → k ≠ id := fun k hk => by
    obtain ⟨cs, hb'⟩ := ho.typed hk
    exact hb'.ne_ hb (by decide)
  have hidl := hb.lt
  have hnev : ∀ k, v.ownBlock = some k → ∃ cs, Blk W k 5 cs := fun k hk => ho.typed hk
  have hkey : ∀ W1 W2 W3 v', Chg (fun _ => False) W W1 → Own W2 5 1 v' (D.files[i].data.size + s.size) (byteCells D.files[i].data ++ byteCells s) → W1.grownBy W2 v.ownBlock → (v'.ownBlock = v.ownBlock ∨ v'.ownBlock = some W1.heap.size) → Chg (fun _ => False) (W2.setCell ⟨id, 0, none⟩ v') W3 → DPost W d ids M (appendA i s D) W3 := by
    intro W1 W2 W3 v' hc1 hown hg hvb hc3
    have hset : Chg (fun k => k = id) W2 (W2.setCell ⟨id, 0, none⟩ v') := Chg.setOwn (Chg.refl _ _) _ _
    have hc2 : Chg (fun k => v.ownBlock = some k) W W2 := (hc1.mono (by simp)).grown hg (fun k e _ => e)
    have hc : Chg (fun k => k = id ∨ v.ownBlock = some k) W W3 := ((hc2.mono fun k _ e => .inr e).trans hset (fun k _ e => .inl e)).then (hc3.mono (by simp))
    have hbW := ((hb.chg hc2 (fun e => hne id e rfl)).set_ 0 v').chg hc3 (by simp)
    have hs1 := hc1.size
    have hs2 := hg.size
    have hv'id : ∀ k, v'.ownBlock = some k → k ≠ id := fun k hk => by
      rcases hvb with e | e
      · exact hne k (by rw [← e]; exact hk)
      · rw [e] at hk; injection hk with hk; omega
    have hoW := (hown.chg hset hv'id).chg hc3 (by simp)
    obtain ⟨h1, _⟩ := h.setFile (f' := ⟨D.files[i].data ++ s, D.files[i].lasts⟩) (v' := v') (List.getElem?_eq_getElem hi) e1 e2 hc (fun k _ e => e) (by simpa using hbW) (by simp only; rw [byteCells_append, ByteArray.size_append]; exact hoW) (fun k hk => by
      rcases hvb with e | e
      · exact .inl (by rw [← e]; exact hk)
      · rw [e] at hk; injection hk with hk; exact .inr (by omega))
    refine ⟨ids, ⟨setF_ok hok fun f hf' => ?_, ?_⟩, List.prefix_refl _, hc.mono fun k _ e => ?_⟩
    · rw [List.getElem?_eq_getElem hi] at hf'
      cases hf'
      simp only [ByteArray.size_append]
      omega
    · refine ⟨{ y with dvs := y.dvs.set i v' }, ?_⟩
      have he : appendA i s D = { D with files := D.files.set i ⟨D.files[i].data ++ s, D.files[i].lasts⟩ } := by
        unfold appendA setF
        rw [modify_set _ _ hi]
      rw [he]
      exact h1
    · rcases e with e | e
      · rw [e]; exact h.mine _ (.inr (.inl (.inl (List.mem_of_getElem? e1))))
      · exact h.mine _ (.inr (.inl (.inr (.inr ⟨i, blockAt_some e2 e⟩))))
  have hoo : ∀ W1, Chg (fun _ => False) W W1 → Own W1 5 1 (.slice va D.files[i].data.size vc) D.files[i].data.size (byteCells D.files[i].data) := fun W1 hW1 => by
    rw [← hvv]; exact ho.same hW1
  have hbfl := hf.lt
  have hbfn : (Value.slice va D.files[i].data.size vc).ownBlock ≠ some bf := fun e => by
    obtain ⟨cs, hb'⟩ := hnev bf (by rw [hvv]; exact e)
    exact hb'.ne_ hf (by decide) rfl
  have HBFN := Lib.hid hbfn
  have hvid : (Value.slice va D.files[i].data.size vc).ownBlock ≠ some id := fun e => hne id (by rw [hvv]; exact e) rfl
  rw [hvv] at hkey
  have HKEY := Lib.hid hkey
  have HOO := Lib.hid hoo
  have HVID := Lib.hid hvid
  generalize D.files[i].data.size = sz at *
  generalize byteCells D.files[i].data = cs at *
  clear hkey h hok hf hsb hb ho hne hnev hvv e1 e2 hfok hoo hvid hbfn
  go_enter Tryz.func173, Tryz.ntmps173
  go_wp2_with fail
  go_region_law ((refine step_own_append _ (by rfl) _ _ _ _ (by rfl) 5 i0 (.int .u8 0) 1 1 Tryz.underlying169 hi0 hz0 hz1 hz2 rfl (.slice va sz vc) sz cs (by rfl) (HOO.out _ cgS) (.string s) s.size (byteCells s) (by rfl) (Src.ofString _ Tryz.underlying9 s) (by unfold maxLen; omega) (by omega) ?_; intro v' w4 hown4 hgrow hat; have fz4 : w4.frozen? ⟨id, 0, none⟩ = false := (hgrow.frozen_far ⟨id, 0, none⟩ (by simp; omega) (fun e => HVID.out e.symm)).trans ((Chg.frozen (S := fun _ => False) (w := W) cgS hidl (by simp)).trans f0); have cz4 : w4.cell? ⟨id, 0, none⟩ = some (.slice va sz vc) := (hgrow.cell_far ⟨id, 0, none⟩ (by simp; omega) (fun e => HVID.out e.symm)).trans ((Chg.cell (S := fun _ => False) (w := W) cgS hidl (by simp)).trans y0); have bz4 : w4.cell? ⟨bf, 0, none⟩ = some (.pointer (some ⟨id, 0, none⟩)) := (hgrow.cell_far ⟨bf, 0, none⟩ (by simp; omega) (fun e => HBFN.out e.symm)).trans ((Chg.cell (S := fun _ => False) (w := W) cgS hbfl (by simp)).trans z0); obtain ⟨va4, vc4, hv4, _, _, _⟩ := hown4.reads; subst hv4; have HK := Lib.hid (fun W3 => HKEY.out _ _ W3 _ cgS hown4 hgrow hat); clear hown4 hgrow hat))
  all_goals
    first | go_end0 | refine bodyPost_ret (results_none rfl _ _ _) rfl ?_
    exact ⟨rfl, HK.out _ cgS⟩

set_option maxRecDepth 100000 in
set_option maxHeartbeats 4000000 in
theorem act_syncdir (hok : DiskOk D) (h : DiskIn W d ids D y M) (hd : Blk W bd 36 #[.pointer (some ⟨d, 0, none⟩)]) :
    Calls Tryz.prog 204 #[.pointer (some ⟨bd, 0, none⟩)] W fun e W' => e = .returned (.tuple #[]) ∧ DPost W d ids M (syncDirA D) W' := by
  have z0 := hd.cell 0
  have c2 := h.blk.cell 2
  have f3 := h.blk.frozen 3
  have f4 := h.blk.frozen 4
  have c3 := h.blk.cell 3
  have c4 := h.blk.cell 4
  simp at z0 c2 c3 c4
  have hdl := h.blk.lt
  have hbl := hd.lt
  have hbd : bd ≠ d := hd.ne_ h.blk (by decide)
  have H := Lib.hid h
  have HOK := Lib.hid hok
  clear h hd hok
  go_enter Tryz.func204, Tryz.ntmps204
  go_wp2_with fail
  go_region_held3 (fun w' => w'.cell? ⟨bd, 0, none⟩ = some (.pointer (some ⟨d, 0, none⟩)) ∧ w'.cell? ⟨d, 2, none⟩ = some (.map (some y.nm)))
    (first | (go_keep; done) | (go_split_ands; refine ⟨?_, ?_⟩ <;> (rw [hc1.cell (by simpa using (by assumption)) (by simp)]; assumption)) | (go_split_ands; refine ⟨?_, ?_⟩ <;> (first | assumption | (go_simp; done) | (go_simp; assumption))))
    (first
      | (go_at_call 205; (with_reducible refine (nmap_clone y.nm ids D.names _ ?_).mono ?_); exact H.out.names.chg (S := fun _ => False) cgS (by simp); rintro e w1 ⟨rfl, hn1, hc1, hs1⟩; have f3' : w1.frozen? ⟨d, 3, none⟩ = false := (hc1.frozen (p := ⟨d, 3, none⟩) (by simpa using hdl) (by simp)).trans f3; have f4' : w1.frozen? ⟨d, 4, none⟩ = false := (hc1.frozen (p := ⟨d, 4, none⟩) (by simpa using hdl) (by simp)).trans f4; have c3' : w1.cell? ⟨d, 3, none⟩ = some (.map (some y.lm)) := (hc1.cell (p := ⟨d, 3, none⟩) (by simpa using hdl) (by simp)).trans c3; have c4' : w1.cell? ⟨d, 4, none⟩ = some y.qv := (hc1.cell (p := ⟨d, 4, none⟩) (by simpa using hdl) (by simp)).trans c4))
  first | go_end0 | refine bodyPost_ret (results_none rfl _ _ _) rfl ?_
  obtain ⟨w2, hw2⟩ : ∃ w2, w2 = (w1.setCell ⟨d, 3, none⟩ (.map (some W.heap.size))).setCell ⟨d, 4, none⟩ (.slice none 0 0) := ⟨_, rfl⟩
  have hc01 : Chg (fun _ => False) W w1 := Chg.then cgS hc1
  have hset : Chg (fun k => k = d) w1 w2 := by rw [hw2]; exact Chg.setOwn (Chg.setOwn (Chg.refl _ _) _ _) _ _
  have hc : Chg (fun k => k = d) W w2 := (hc01.mono (by simp)).then hset
  have hb2 : Blk w2 d 93 #[.int .i64 D.room, y.fv, .map (some y.nm), .map (some W.heap.size), .slice none 0 0, .int .i64 D.cutL, .int .i64 D.cutN, y.cv, .int .i64 D.fullL, .int .i64 0, .slice none 0 0, .bool D.off] := by
    have := ((H.out.blk.chg hc01 (by simp)).set_ 3 (.map (some W.heap.size))).set_ 4 (.slice none 0 0)
    rw [hw2]
    simpa using this
  have hnl : y.nm < W.heap.size := H.out.lt _ (H.out.mine _ (.inr (.inr (.inl rfl))))
  have hs2 := hset.size
  have hs1' : w1.heap.size = W.heap.size + 1 := by simpa using hs1
  have hn1' : NMap w1 W.heap.size ids D.names := by simpa using hn1
  have hfin : DiskIn w2 d ids (syncDirA D) { y with lm := W.heap.size, qv := .slice none 0 0, svs := [] } (Mx M W w2) := by
    refine ⟨hb2, H.out.files.chg hc fun k hk => (H.out.files_ne hk).1, H.out.names.chg hc H.out.d_ne.1.symm, hn1'.chg hset (by omega), ?_, ⟨own_nil, by simp [syncDirA]⟩, H.out.cutb.chg hc fun k hk => (H.out.cut_ne hk).1, ?_, mx_lt H.out.lt (by omega)⟩
    · show y.nm ≠ W.heap.size
      omega
    · have hm := H.out.mine
      rintro k (e | e | e | e | e | e)
      · exact .inl (hm k (.inl e))
      · exact .inl (hm k (.inr (.inl e)))
      · exact .inl (hm k (.inr (.inr (.inl e))))
      · exact .inr (by have e' : k = W.heap.size := e; omega)
      · rcases e with e | ⟨j, e⟩
        · simp [Value.ownBlock] at e
        · simp [blockAt] at e
      · exact .inl (hm k (.inr (.inr (.inr (.inr (.inr e))))))
  have hcM : Chg M W w2 := hc.mono fun k _ e => by rw [e]; exact H.out.mine _ (.inl rfl)
  rw [hw2] at hfin hcM
  exact ⟨rfl, ids, ⟨syncDir_ok HOK.out, _, hfin⟩, List.prefix_refl _, hcM⟩
end
end Go.Proofs.YtljabmkmngbhkaaGreatDoor
