/-
  The disk: a loss of power (fail).
-/
import Derived.Test.YtljabmkmngbhkaaGreatDoorZMg03
namespace Go.Proofs.YtljabmkmngbhkaaGreatDoor
open Go.RowKit
set_option linter.unusedVariables false
set_option linter.unusedSimpArgs false

/-- A slice of ints, wherever it lies. -/
def RInts (w : World) (v : Value) (l : List Int) : Prop := ∃ a cap, v = .slice a l.length cap ∧ l.length ≤ 9223372036854775807 ∧ (∀ n ∈ l, -9223372036854775808 ≤ n ∧ n ≤ 9223372036854775807) ∧
  (0 < l.length → ∃ b off, a = some ⟨b, off, none⟩ ∧ ∀ i x, l[i]? = some x → w.cell? ⟨b, off + i, none⟩ = some (.int .i64 x))
theorem DiskIn.setD {w w' : World} {d : Nat} {ids : List Nat} {D : DiskV} {y : Lay} {M : Nat → Prop} (h : DiskIn w d ids D y M) (hc : Chg (fun k => k = d) w w') (cutL cutN : Int) (cutB : List Int) (fullL : Int) (off : Bool) (cv : Value)
    (hb : Blk w' d 93 #[.int .i64 D.room, y.fv, .map (some y.nm), .map (some y.lm), y.qv, .int .i64 cutL, .int .i64 cutN, cv, .int .i64 fullL, .int .i64 0, .slice none 0 0, .bool off])
    (ho : Own w' 3 1 cv cutB.length (intCells cutB)) (hm : ∀ k, cv.ownBlock = some k → M k) : DiskIn w' d ids { D with cutL := cutL, cutN := cutN, cutB := cutB, fullL := fullL, off := off } { y with cv := cv } M :=
  ⟨hb, h.files.chg hc fun k hk => (h.files_ne hk).1, h.names.chg hc h.d_ne.1.symm, h.lasts.chg hc h.d_ne.2.symm, h.two, h.queue.chg hc fun k hk => (h.queue_ne hk).1, ho, fun k hk => by
    rcases hk with e | e | e | e | e | e
    · exact h.mine k (.inl e)
    · exact h.mine k (.inr (.inl e))
    · exact h.mine k (.inr (.inr (.inl e)))
    · exact h.mine k (.inr (.inr (.inr (.inl e))))
    · exact h.mine k (.inr (.inr (.inr (.inr (.inl e)))))
    · exact hm k e, fun k hk => Nat.lt_of_lt_of_le (h.lt k hk) hc.size⟩
/-- One file is another one. -/
theorem DiskIn.setFile {w w' : World} {d : Nat} {ids : List Nat} {D : DiskV} {y : Lay} {M S : Nat → Prop} {q id : Nat} {f f' : FileV} {v v' : Value} (h : DiskIn w d ids D y M) (hf : D.files[q]? = some f) (hid : ids[q]? = some id) (hv : y.dvs[q]? = some v)
    (hc : Chg S w w') (hS : ∀ k, k < w.heap.size → S k → k = id ∨ v.ownBlock = some k) (hb : Blk w' id 273 #[v', .int .i64 f'.lasts]) (ho : Own w' 5 1 v' f'.data.size (byteCells f'.data)) (hvb : ∀ k, v'.ownBlock = some k → v.ownBlock = some k ∨ w.heap.size ≤ k) :
    DiskIn w' d ids { D with files := D.files.set q f' } { y with dvs := y.dvs.set q v' } (Mx M w w') ∧ ∀ k, FFoot ids y.fv (y.dvs.set q v') k → FFoot ids y.fv y.dvs k ∨ w.heap.size ≤ k := by
  have h1 : FFoot ids y.fv y.dvs id := .inl (List.mem_of_getElem? hid)
  have h2 : ∀ k, v.ownBlock = some k → FFoot ids y.fv y.dvs k := fun k hk => .inr (.inr ⟨q, blockAt_some hv hk⟩)
  have hlt : ∀ k, DFoot d ids y k → k < w.heap.size := fun k hk => h.lt k (h.mine k hk)
  have hSF : ∀ k, k < w.heap.size → S k → FFoot ids y.fv y.dvs k := fun k hkl hk => by
    rcases hS k hkl hk with e | e
    · rw [e]; exact h1
    · exact h2 k e
  have hf1 : ∀ k, FFoot ids y.fv (y.dvs.set q v') k → FFoot ids y.fv y.dvs k ∨ w.heap.size ≤ k := by
    rintro k (e | e | ⟨j, e⟩)
    · exact .inl (.inl e)
    · exact .inl (.inr (.inl e))
    · obtain ⟨u, e1, hu⟩ := blockAt_inv e
      by_cases hj : q = j
      · subst hj
        rw [List.getElem?_set_self (by rw [h.files.dvn]; exact (List.getElem?_eq_some_iff.1 hf).1)] at e1
        cases e1
        rcases hvb k hu with e' | e'
        · exact .inl (h2 k e')
        · exact .inr e'
      · rw [List.getElem?_set_ne hj] at e1
        exact .inl (.inr (.inr ⟨j, blockAt_some e1 hu⟩))
  have hfl : ∀ k, FFoot ids y.fv y.dvs k → S k → k = id ∨ v.ownBlock = some k := fun k hk hs => hS k (hlt k (.inr (.inl hk))) hs
  have hfd := h.files.upd hf hid hv hc hfl hb ho hvb
  refine ⟨⟨h.blk.chg hc fun hs => ?_, hfd, h.names.chg hc fun hs => ?_, h.lasts.chg hc fun hs => ?_, h.two, h.queue.chg hc fun k hk hs => ?_, h.cutb.chg hc fun k hk hs => ?_, ?_, mx_lt h.lt hc.size⟩, hf1⟩
  · exact (h.files_ne (hSF d (hlt d (.inl rfl)) hs)).1 rfl
  · exact (h.files_ne (hSF _ (hlt _ (.inr (.inr (.inl rfl)))) hs)).2.1 rfl
  · exact (h.files_ne (hSF _ (hlt _ (.inr (.inr (.inr (.inl rfl))))) hs)).2.2.1 rfl
  · exact (h.files_ne (hSF _ (hlt _ (.inr (.inr (.inr (.inr (.inl hk)))))) hs)).2.2.2.1 hk
  · exact (h.files_ne (hSF _ (hlt _ (.inr (.inr (.inr (.inr (.inr hk)))))) hs)).2.2.2.2 hk
  · rintro k (e | e | e | e | e | e)
    · exact .inl (h.mine k (.inl e))
    · rcases hf1 k e with e' | e'
      · exact .inl (h.mine k (.inr (.inl e')))
      · obtain ⟨t, cs, hb', _⟩ := hfd.typed e
        exact .inr ⟨e', hb'.lt⟩
    · exact .inl (h.mine k (.inr (.inr (.inl e))))
    · exact .inl (h.mine k (.inr (.inr (.inr (.inl e)))))
    · exact .inl (h.mine k (.inr (.inr (.inr (.inr (.inl e))))))
    · exact .inl (h.mine k (.inr (.inr (.inr (.inr (.inr e))))))
theorem mx_mx {M : Nat → Prop} {w w1 w2 : World} (h1 : w.heap.size ≤ w1.heap.size) (h2 : w1.heap.size ≤ w2.heap.size) : ∀ k, Mx (Mx M w w1) w1 w2 k → Mx M w w2 k := by
  rintro k ((h | h) | h)
  · exact .inl h
  · exact .inr ⟨h.1, by omega⟩
  · exact .inr ⟨by omega, h.2⟩
/-- The files behind the first p rounds of fail. -/
def mixF (bytes : List Int) (p : Nat) (files : List FileV) : List FileV := files.mapIdx fun i f => if i < p then fileFix bytes i f else f
theorem mixF_zero (bytes : List Int) (files : List FileV) : mixF bytes 0 files = files := by
  apply List.ext_getElem? ; intro i; simp [mixF, List.getElem?_mapIdx]
theorem mixF_all (bytes : List Int) (files : List FileV) : mixF bytes files.length files = files.mapIdx (fileFix bytes) := by
  apply List.ext_getElem?; intro i
  simp only [mixF, List.getElem?_mapIdx]
  by_cases hi : i < files.length
  · simp [List.getElem?_eq_getElem hi, hi]
  · rw [List.getElem?_eq_none (by omega)]; rfl
theorem mixF_len (bytes : List Int) (p : Nat) (files : List FileV) : (mixF bytes p files).length = files.length := by simp [mixF]
theorem mixF_at (bytes : List Int) (p : Nat) (files : List FileV) (hp : p < files.length) : (mixF bytes p files)[p]? = some files[p] := by
  simp [mixF, List.getElem?_mapIdx, List.getElem?_eq_getElem hp]
theorem mixF_succ (bytes : List Int) (p : Nat) (files : List FileV) (hp : p < files.length) : (mixF bytes p files).set p (fileFix bytes p files[p]) = mixF bytes (p + 1) files := by
  apply List.ext_getElem?; intro i
  by_cases hi : p = i
  · subst hi
    rw [List.getElem?_set_self (by rw [mixF_len]; exact hp)]
    simp [mixF, List.getElem?_mapIdx, List.getElem?_eq_getElem hp]
  · rw [List.getElem?_set_ne hi]
    simp only [mixF, List.getElem?_mapIdx]
    congr 1
    funext f
    by_cases h1 : i < p
    · rw [if_pos h1, if_pos (by omega)]
    · rw [if_neg h1, if_neg (by omega)]
theorem bytes_cut (s : ByteArray) (k : Nat) (hk : k ≤ s.size) : (s.extract 0 k).size = k ∧ byteCells (s.extract 0 k) = (byteCells s).take k := by
  refine ⟨by rw [ByteArray.size_extract]; omega, ?_⟩
  unfold byteCells
  rw [← List.map_take]
  congr 1
  rw [ByteArray.data_extract, Array.toList_extract]
  simp
/-- The bytes that a file keeps of those that don't last. -/
def keepN (bytes : List Int) (i : Nat) (f : FileV) : Nat := (if bytes = [] then (0 : Int) else restI (bytes.getD (i % bytes.length) 0) ((f.data.size : Int) - f.lasts + 1)).toNat
theorem fileFix_eq (bytes : List Int) (i : Nat) (f : FileV) : fileFix bytes i f = ⟨f.data.extract 0 (f.lasts + keepN bytes i f), f.lasts + keepN bytes i f⟩ := rfl
theorem keepN_le (bytes : List Int) (i : Nat) (f : FileV) (h : f.lasts ≤ f.data.size) : f.lasts + keepN bytes i f ≤ f.data.size := by
  unfold keepN
  split
  · simpa using h
  · have := restI_bd (n := bytes.getD (i % bytes.length) 0) (b := (f.data.size : Int) - f.lasts + 1) (by omega)
    omega
theorem doAll_snoc (l : Names) (q : List StepV) (s : StepV) : doAll l (q ++ [s]) = doStep (doAll l q) s := by simp [doAll]

set_option maxRecDepth 100000 in
set_option maxHeartbeats 4000000 in
theorem disk_fail (d : Nat) (ids : List Nat) (D : DiskV) (y : Lay) (M : Nat → Prop) (names : Int) (bytes : List Int) (bv : Value) (hok : DiskOk D) (hq : D.queue.length ≤ 1000000000) (hn1 : -9223372036854775808 ≤ names) (hn2 : names ≤ 9223372036854775807) (w : World) (h : DiskIn w d ids D y M)
    (hbs : ∀ W, Chg (fun k => k = d ∨ k = y.lm ∨ FFoot ids y.fv y.dvs k) w W → RInts W bv bytes) :
    Calls Tryz.prog 262 #[.pointer (some ⟨d, 0, none⟩), .int .i64 names, bv] w fun e w' => e = .returned (.tuple #[]) ∧ (∃ y', DiskIn w' d ids (failD D names bytes) y' (Mx M w w')) ∧ Chg M w w' := by
  have c4 := h.blk.cell 4
  have c3 := h.blk.cell 3
  simp at c3 c4
  have hdl := h.blk.lt
  obtain ⟨hd1, hd2⟩ := h.d_ne
  obtain ⟨qa, qc, hqv, hqcap, hqn, hqread⟩ := h.queue.own.reads
  obtain ⟨r0, r1⟩ := restI_bd (n := names) (b := (D.queue.length : Int) + 1) (by omega)
  obtain ⟨K, hK⟩ : ∃ K : Nat, restI names ((D.queue.length : Int) + 1) = K := ⟨_, (Int.toNat_of_nonneg r0).symm⟩
  have hrest := fun W => disk_rest names ((D.queue.length : Int) + 1) (by omega) (by omega) hn1 hn2 W
  rw [hK] at hrest r1
  have hKl : K ≤ D.queue.length := by omega
  have hKl' : (K : Int) ≤ (D.queue.length : Int) := by omega
  have hKc : (K : Int) ≤ (qc : Int) := by omega
  have hlast := h.lasts
  obtain ⟨ba, bc, rfl, hbn, hbr, _⟩ := hbs w (Chg.refl _ _)
  have H := Lib.hid h
  have HB := Lib.hid hbs
  have HR := Lib.hid hrest
  have HK := Lib.hid hK
  have HOK := Lib.hid hok
  have HBR := Lib.hid hbr
  rw [hqv] at c4
  have HQV := Lib.hid hqv
  have HQR := Lib.hid hqread
  have HLAST := Lib.hid hlast
  clear h hbs hrest hK hok hqv hlast hqread hbr
  go_enter Tryz.func262, Tryz.ntmps262
  go_wp2_with fail
  go_quiet (first | (go_at_call 315; exact quiet_same (HR.out _)))
  go_wp2_with fail
  go_loopw [25] (fun i wr => ∃ p : Nat, p ≤ K ∧ i = .int .i64 p ∧ NMap wr y.lm ids (doAll D.lasts (D.queue.take p)) ∧ Chg (fun k => k = y.lm) w wr) (fun i _ => K - (intOf i).toNat)
  case atStart => exact ⟨0, by omega, rfl, by simpa [doAll] using HLAST.out.chg (S := fun _ => False) cgS (by simp), cgS⟩
  case round =>
    obtain ⟨p, hp, rfl, hnm, hc1⟩ := hrel
    by_cases hlt : p < K
    · have hpq : p < D.queue.length := by omega
      have hlt' : (p : Int) < (K : Int) := by omega
      have hge' : (0 : Int) ≤ (p : Int) := by omega
      have hqne := fun k (hk : QFoot y.qv y.svs k) => H.out.queue_ne hk
      obtain ⟨v, e1, ho⟩ := H.out.queue.step p _ (List.getElem?_eq_getElem hpq)
      have hso : Own wr 312 2 v D.queue[p].length (stepCells ids D.queue[p]) := ho.chg hc1 fun k hk e => (hqne k (.inr ⟨p, blockAt_some e1 hk⟩)).2.2.1 e
      obtain ⟨qb, rfl, hqb, hqbo, hqcell⟩ := HQR.out (by omega)
      have hqlm : ¬ qb = y.lm := (hqne qb (.inl hqbo)).2.2.1
      have z0 := (hc1.cell (p := ⟨qb, p, none⟩) hqb hqlm).trans (hqcell p v e1)
      have c3' := (hc1.cell (p := ⟨d, 3, none⟩) hdl hd2).trans c3
      have hok := HOK.out
      have hdo := disk_do y.lm ids (doAll D.lasts (D.queue.take p)) D.queue[p] v D.files.length (hok.lasts.doAll fun s hs => hok.queue s (List.mem_of_mem_take hs)) (hok.queue _ (List.getElem_mem hpq)) wr hnm hso
      have htk : doStep (doAll D.lasts (D.queue.take p)) D.queue[p] = doAll D.lasts (D.queue.take (p + 1)) := by
        rw [← doAll_snoc, List.take_succ_eq_append_getElem hpq]
      rw [htk] at hdo
      have HDO := Lib.hid hdo
      have HC1 := Lib.hid hc1
      clear hdo hc1 hnm hso ho e1 htk hok hqcell hqne
      go_wp2_with fail
      refine HDO.out.mono ?_
      rintro e w2 ⟨rfl, hn2, hc2⟩
      have hc12 := HC1.out.then hc2
      have HN2 := Lib.hid hn2
      have HC12 := Lib.hid hc12
      clear hn2 hc12 hc2 c3' z0
      go_wp2_with fail
      exact ⟨⟨p + 1, by omega, by go_num, HN2.out, HC12.out⟩, by simp [intOf]; omega⟩
    · obtain rfl : p = K := by omega
      have hge' : ¬ ((p : Int) < (p : Int)) := by omega
      have f4 := (hc1.frozen (p := ⟨d, 4, none⟩) hdl hd2).trans (H.out.blk.frozen 4)
      have f2 := (hc1.frozen (p := ⟨d, 2, none⟩) hdl hd2).trans (H.out.blk.frozen 2)
      have c3' := (hc1.cell (p := ⟨d, 3, none⟩) hdl hd2).trans c3
      have c4' := (hc1.cell (p := ⟨d, 4, none⟩) hdl hd2).trans c4
      have hb1 := H.out.blk.chg hc1 hd2
      have hw1 := hc1.size
      obtain ⟨w2, hw2⟩ : ∃ w2, w2 = wr.setCell ⟨d, 4, none⟩ (.slice none 0 0) := ⟨_, rfl⟩
      have hset : Chg (fun k => k = d) wr w2 := by rw [hw2]; exact Chg.setOwn (Chg.refl _ _) _ _
      have hb2 : Blk w2 d 93 #[.int .i64 D.room, y.fv, .map (some y.nm), .map (some y.lm), .slice none 0 0, .int .i64 D.cutL, .int .i64 D.cutN, y.cv, .int .i64 D.fullL, .int .i64 0, .slice none 0 0, .bool D.off] := by
        rw [hw2]; simpa using hb1.set_ 4 (.slice none 0 0)
      have hn2 := hnm.chg hset (fun e => hd2 e.symm)
      have hclone := nmap_clone y.lm ids _ w2 hn2
      have hsz2 : w2.heap.size = wr.heap.size := by rw [hw2]; simp [World.setCell]
      rw [hsz2] at hclone
      have hc12 : Chg (fun k => k = y.lm ∨ k = d) w w2 := (hc1.mono fun k _ e => .inl e).trans hset (fun k _ e => .inr e)
      have c3'' := hb2.cell 3
      have f2' := hb2.frozen 2
      have c2' := hb2.cell 2
      simp at c3'' c2'
      have HN2 := Lib.hid hn2
      have HCL := Lib.hid hclone
      have HC12 := Lib.hid hc12
      have HB2 := Lib.hid hb2
      have hd2l := hb2.lt
      have HW2 := Lib.hid hw2
      clear hnm hc1 hb1 hset hn2 hclone hc12 hb2 c3 c4 HLAST hqcap hqn r1
      go_wp2_with fail
      rw [← HW2.out]
      refine HCL.out.mono ?_
      rintro e w3 ⟨rfl, hn3, hc3, hs3⟩
      obtain ⟨Lq, hLq⟩ : ∃ Lq, Lq = doAll D.lasts (D.queue.take p) := ⟨_, rfl⟩
      obtain ⟨nb, hnb⟩ : ∃ nb, nb = wr.heap.size := ⟨_, rfl⟩
      rw [← hnb] at hn3 hs3 hsz2 ⊢
      rw [← hLq] at hn3
      obtain ⟨w4, hw4⟩ : ∃ w4, w4 = w3.setCell ⟨d, 2, none⟩ (.map (some nb)) := ⟨_, rfl⟩
      have hset4 : Chg (fun k => k = d) w3 w4 := by rw [hw4]; exact Chg.setOwn (Chg.refl _ _) _ _
      have hs4 := hset4.size
      have hs2 := HC12.out.size
      have hnbd : nb ≠ d := by omega
      have hc14 : Chg (fun k => k = y.lm ∨ k = d) w w4 := (HC12.out.then (hc3.mono (by simp))).trans hset4 (fun k _ e => .inr e)
      have hb4 : Blk w4 d 93 #[.int .i64 D.room, y.fv, .map (some nb), .map (some y.lm), .slice none 0 0, .int .i64 D.cutL, .int .i64 D.cutN, y.cv, .int .i64 D.fullL, .int .i64 0, .slice none 0 0, .bool D.off] := by
        have := (HB2.out.chg hc3 (by simp)).set_ 2 (.map (some nb))
        rw [hw4]
        simpa using this
      have hlml : y.lm < w.heap.size := H.out.lt _ (H.out.mine _ (.inr (.inr (.inr (.inl rfl)))))
      have hDI : DiskIn w4 d ids { D with lasts := Lq, names := Lq, queue := [] } { y with nm := nb, qv := .slice none 0 0, svs := [] } (Mx M w w4) := by
        refine ⟨hb4, H.out.files.chg hc14 fun k hk e => ?_, hn3.chg hset4 hnbd, ?_, ?_, ⟨own_nil, by simp⟩, H.out.cutb.chg hc14 fun k hk e => ?_, ?_, mx_lt H.out.lt (by omega)⟩
        · obtain ⟨a1, _, b1, _⟩ := H.out.files_ne hk
          rcases e with e | e
          · exact b1 e
          · exact a1 e
        · have := (HN2.out.chg hc3 (by simp)).chg hset4 (fun e => hd2 e.symm)
          rw [← hLq] at this
          exact this
        · show nb ≠ y.lm
          omega
        · obtain ⟨a1, _, b1⟩ := H.out.cut_ne hk
          rcases e with e | e
          · exact b1 e
          · exact a1 e
        · have hm := H.out.mine
          rintro k (e | e | e | e | e | e)
          · exact .inl (hm k (.inl e))
          · exact .inl (hm k (.inr (.inl e)))
          · exact .inr (by have e' : k = nb := e; omega)
          · exact .inl (hm k (.inr (.inr (.inr (.inl e)))))
          · rcases e with e | ⟨j, e⟩
            · simp [Value.ownBlock] at e
            · simp [blockAt] at e
          · exact .inl (hm k (.inr (.inr (.inr (.inr (.inr e))))))
      have hcM : Chg M w w4 := hc14.mono fun k _ e => by
        rcases e with e | e
        · rw [e]; exact H.out.mine _ (.inr (.inr (.inr (.inl rfl))))
        · rw [e]; exact H.out.mine _ (.inl rfl)
      have hcB : Chg (fun k => k = d ∨ k = y.lm ∨ FFoot ids y.fv y.dvs k) w w4 := hc14.mono fun k _ e => by
        rcases e with e | e
        · exact .inr (.inl e)
        · exact .inl e
      have d1 := hb4.cell 1
      simp at d1
      obtain ⟨fa, fc, hfv, hfcap, hfn, hfread⟩ := hDI.files.own.reads
      have hfv' : y.fv = .slice fa ids.length fc := hfv
      rw [hfv'] at d1
      have d1' := (HB2.out.chg hc3 (by simp)).cell 1
      simp at d1'
      rw [hfv'] at d1'
      clear d1
      have HDI := Lib.hid hDI
      have HCM := Lib.hid hcM
      have HCB := Lib.hid hcB
      have HFV := Lib.hid hfv'
      have HLQ := Lib.hid hLq
      have hidn : ids.length = D.files.length := H.out.files.idn
      have HIDN := Lib.hid hidn
      have HW4 := Lib.hid hw4
      have f2'' := (hc3.frozen (p := ⟨d, 2, none⟩) hd2l (by simp)).trans f2'
      have c2''' := (hc3.cell (p := ⟨d, 2, none⟩) hd2l (by simp)).trans c2'
      clear hDI hcM hcB hc14 hb4 hset4 hn3 hc3 hfv hfv' hLq HN2 HCL HC12 HB2 hfread hidn hs3 hsz2 hnb f2' c2' c3'' c3' c4' f4 f2 hw4
      go_wp2_with fail
      rw [← HW4.out]
      clear f2'' c2''' d1' HW4
      go_loopw [52] (fun i wr => ∃ (q : Nat) (dvs : List Value), q ≤ D.files.length ∧ i = .int .i64 q ∧ DiskIn wr d ids { D with lasts := Lq, names := Lq, queue := [], files := mixF bytes q D.files } { y with nm := nb, qv := .slice none 0 0, svs := [], dvs := dvs } (Mx M w wr) ∧ Chg M w wr ∧
        Chg (fun k => k = d ∨ k = y.lm ∨ FFoot ids y.fv y.dvs k) w wr ∧ (∀ k, FFoot ids y.fv dvs k → FFoot ids y.fv y.dvs k)) (fun i _ => D.files.length - (intOf i).toNat)
      case atStart => exact ⟨0, y.dvs, by omega, rfl, by rw [mixF_zero]; exact HDI.out, HCM.out, HCB.out, fun k hk => hk⟩
      case round =>
        obtain ⟨q, dvs, hqF, rfl, hDI, hcM, hcB, hff⟩ := hrel
        by_cases hlt2 : q < D.files.length
        · have hqi : (q : Int) < (ids.length : Int) := by have := HIDN.out; omega
          have hq0 : (0 : Int) ≤ (q : Int) := by omega
          obtain ⟨id, v, e1, e2, hb, ho⟩ := hDI.files.file q D.files[q] (mixF_at bytes q D.files hlt2)
          obtain ⟨fl0, fl1⟩ := HOK.out.file D.files[q] (List.getElem_mem hlt2)
          have hkeep := keepN_le bytes q D.files[q] fl0
          have hkd : keepN bytes q D.files[q] = keepN bytes q D.files[q] := rfl
          obtain ⟨va, vc, hvv, hvcap, _, _⟩ := ho.reads
          have hfo : Own wr 251 1 (.slice fa ids.length fc) ids.length (ids.map fun i => .pointer (some ⟨i, 0, none⟩)) := by
            have := hDI.files.own
            rw [show ({ y with nm := nb, qv := Value.slice none 0 0, svs := [], dvs := dvs } : Lay).fv = _ from HFV.out] at this
            exact this
          obtain ⟨fa', fc', he, _, _, hfread⟩ := hfo.reads
          injection he with he1 he2 he3
          obtain ⟨fb, hfa, hfbl, _, hfcell⟩ := hfread (by have := HIDN.out; omega)
          rw [← he1] at hfa
          have zq := hfcell q (.pointer (some ⟨id, 0, none⟩)) (by rw [List.getElem?_map, e1]; rfl)
          have hcut := ho.cut hkeep
          rw [hvv] at hcut
          obtain ⟨va', vc', he', hown'⟩ := hcut
          injection he' with he4 he5 he6
          subst he4 he6
          obtain ⟨bsz, bcl⟩ := bytes_cut D.files[q].data (D.files[q].lasts + keepN bytes q D.files[q]) hkeep
          have z0 := hb.cell 0
          have z1 := hb.cell 1
          have zf0 := hb.frozen 0
          have zf1 := hb.frozen 1
          simp at z0 z1
          rw [hvv] at z0
          have hidl := hb.lt
          have hidM : Mx M w wr id := hDI.mine id (.inr (.inl (.inl (List.mem_of_getElem? e1))))
          have hdne : d ≠ id := (hDI.files_ne (.inl (List.mem_of_getElem? e1))).1.symm
          obtain ⟨fin, hfin⟩ : ∃ fin : World → Prop, fin = fun W => DiskIn W d ids { D with lasts := Lq, names := Lq, queue := [], files := mixF bytes (q + 1) D.files } { y with nm := nb, qv := .slice none 0 0, svs := [], dvs := dvs.set q (.slice va (D.files[q].lasts + keepN bytes q D.files[q]) (D.files[q].lasts + keepN bytes q D.files[q])) } (Mx M w W) ∧ Chg M w W ∧
            Chg (fun k => k = d ∨ k = y.lm ∨ FFoot ids y.fv y.dvs k) w W ∧ (∀ k, FFoot ids y.fv (dvs.set q (.slice va (D.files[q].lasts + keepN bytes q D.files[q]) (D.files[q].lasts + keepN bytes q D.files[q]))) k → FFoot ids y.fv y.dvs k) := ⟨_, rfl⟩
          have hkey : ∀ W W', Chg (fun _ => False) wr W → Chg (fun _ => False) ((W.setCell ⟨id, 1, none⟩ (.int .i64 ((D.files[q].lasts : Int) + keepN bytes q D.files[q]))).setCell ⟨id, 0, none⟩ (.slice va (D.files[q].lasts + keepN bytes q D.files[q]) (D.files[q].lasts + keepN bytes q D.files[q]))) W' → fin W' := by
            intro W W' hW hW'
            have hset : Chg (fun k => k = id) W ((W.setCell ⟨id, 1, none⟩ (.int .i64 ((D.files[q].lasts : Int) + keepN bytes q D.files[q]))).setCell ⟨id, 0, none⟩ (.slice va (D.files[q].lasts + keepN bytes q D.files[q]) (D.files[q].lasts + keepN bytes q D.files[q]))) := Chg.setOwn (Chg.setOwn (Chg.refl _ _) _ _) _ _
            have hc : Chg (fun k => k = id) wr W' := ((hW.mono (by simp)).then hset).then (hW'.mono (by simp))
            have hdv : v.ownBlock = (Value.slice va (D.files[q].lasts + keepN bytes q D.files[q]) (D.files[q].lasts + keepN bytes q D.files[q])).ownBlock := by rw [hvv]; cases va <;> rfl
            have hne0 : ∀ k, v.ownBlock = some k → k ≠ id := fun k hk => by
              obtain ⟨cs, hb'⟩ := ho.typed hk
              exact hb'.ne_ hb (by decide)
            have hbW := (((hb.chg hW (by simp)).set_ 1 (.int .i64 ((D.files[q].lasts : Int) + keepN bytes q D.files[q]))).set_ 0 (.slice va (D.files[q].lasts + keepN bytes q D.files[q]) (D.files[q].lasts + keepN bytes q D.files[q]))).chg hW' (by simp)
            have hoW := hown'.chg hc fun k hk => hne0 k (by rw [hdv]; exact hk)
            obtain ⟨hD1, hD2⟩ := hDI.setFile (f' := fileFix bytes q D.files[q]) (v' := .slice va (D.files[q].lasts + keepN bytes q D.files[q]) (D.files[q].lasts + keepN bytes q D.files[q])) (mixF_at bytes q D.files hlt2) e1 e2 hc (fun k _ e => .inl e) (by rw [fileFix_eq]; simpa using hbW)
              (by rw [fileFix_eq]; simp only; rw [bsz, bcl]; simpa using hoW) (fun k hk => .inl (by rw [hdv]; exact hk))
            have hs0 := hcM.size
            have hs1 := hc.size
            rw [hfin]
            refine ⟨?_, hcM.trans hc (fun k hk (e : k = id) => ?_), hcB.trans hc (fun k hk (e : k = id) => ?_), fun k hk => ?_⟩
            · have := hD1.more (mx_mx hs0 hs1) (mx_lt H.out.lt (by omega))
              rw [mixF_succ bytes q D.files hlt2] at this
              exact this
            · rcases hidM with e' | e'
              · rw [e]; exact e'
              · omega
            · rw [e]; exact .inr (.inr (hff id (.inl (List.mem_of_getElem? e1))))
            · rcases hk with e | e | ⟨j, e⟩
              · exact hff k (.inl e)
              · exact hff k (.inr (.inl e))
              · obtain ⟨u, g1, hu⟩ := blockAt_inv e
                by_cases hj : q = j
                · subst hj
                  rw [List.getElem?_set_self (by have := hDI.files.dvn; simp only [mixF_len] at this; rw [this]; exact hlt2)] at g1
                  cases g1
                  exact hff k (.inr (.inr ⟨q, blockAt_some e2 (by rw [hdv]; exact hu)⟩))
                · rw [List.getElem?_set_ne hj] at g1
                  exact hff k (.inr (.inr ⟨j, blockAt_some g1 hu⟩))
          have hbsW := HB.out wr hcB
          obtain ⟨ba2, bc2, hbe, _, hbr2, hbread⟩ := hbsW
          injection hbe with hbe1 hbe2 hbe3
          subst hbe1 hbe3
          have hkp : keepN bytes q D.files[q] = (if bytes = [] then (0 : Int) else restI (bytes.getD (q % bytes.length) 0) ((D.files[q].data.size : Int) - D.files[q].lasts + 1)).toNat := rfl
          have HKEY := Lib.hid hkey
          have HFINE := Lib.hid hfin
          have HKP := Lib.hid hkp
          have HBR2 := Lib.hid hbr2
          have HBREAD := Lib.hid hbread
          have HCB := Lib.hid hcB
          have hida := HIDN.out
          have HIDA := Lib.hid hida
          clear hkey hfin hkp hbr2 hbread hcB hcM hDI hff hb ho hvv hfo hfread hfcell hown' bsz bcl hkd e1 e2 hbe2 he2 he3 he5 hida
          generalize D.files[q].lasts = la at *
          generalize keepN bytes q D.files[q] = kp at *
          generalize D.files[q].data.size = sz at *
          have hla : (0 : Int) ≤ (la : Int) := by omega
          have hlk : (la : Int) + (kp : Int) ≤ (vc : Int) := by omega
          have hlk0 : (0 : Int) ≤ (la : Int) + (kp : Int) := by omega
          have hlk2 : ((la : Int) + (kp : Int)).toNat = la + kp := by omega
          clear he1
          subst hfa
          by_cases hbe : bytes = []
          · have hno : ¬ ((0 : Int) < (bytes.length : Int)) := by rw [hbe]; simp
            have hkp0 : kp = 0 := by rw [HKP.out, if_pos hbe]; rfl
            subst hkp0
            have hkey0 := HKEY.out
            simp only [Nat.add_zero, Int.natCast_zero, Int.add_zero, show ((0 : Nat) : Int) = 0 from rfl] at hkey0
            have HKEY0 := Lib.hid hkey0
            clear hbe hkey0 HKEY
            go_wp2_with fail
            go_region
            all_goals
              go_wp2_with fail
              have hf := HKEY0.out _ _ (Chg.refl _ wr) ((Chg.refl _ _).drew)
              rw [HFINE.out] at hf
              obtain ⟨g1, g2, g3, g4⟩ := hf
              exact ⟨⟨q + 1, _, by omega, by go_num, g1, g2, g3, g4⟩, by simp [intOf]; omega⟩
          · have hpos : (0 : Int) < (bytes.length : Int) := by
              have : bytes.length ≠ 0 := fun e => hbe (List.eq_nil_of_length_eq_zero e)
              omega
            obtain ⟨bb, boff, hba, hbcell⟩ := HBREAD.out (by omega)
            subst hba
            obtain ⟨mq, hmq⟩ : ∃ mq, mq = q % bytes.length := ⟨_, rfl⟩
            have hml : mq < bytes.length := by rw [hmq]; exact Nat.mod_lt _ (by omega)
            have zb := hbcell mq _ (List.getElem?_eq_getElem hml)
            have hgd : bytes.getD mq 0 = bytes[mq] := by rw [List.getD_eq_getElem?_getD, List.getElem?_eq_getElem hml]; rfl
            obtain ⟨bx, hbx⟩ : ∃ bx, bx = bytes[mq] := ⟨_, rfl⟩
            rw [← hbx] at zb hgd
            have hbxb := HBR2.out bx (by rw [hbx]; exact List.getElem_mem hml)
            have hkr : restI bx ((sz : Int) - la + 1) = (kp : Int) := by
              have h0 := restI_bd (n := bx) (b := (sz : Int) - la + 1) (by omega)
              rw [HKP.out, if_neg hbe, ← hmq, hgd]
              omega
            have hrest2 := fun W => disk_rest bx ((sz : Int) - la + 1) (by omega) (by omega) hbxb.1 hbxb.2 W
            rw [hkr] at hrest2
            have hm1 : (q : Int) % (bytes.length : Int) = (mq : Int) := by rw [hmq]; simp
            have hm2 : (q : Int).tmod (bytes.length : Int) = (mq : Int) := by rw [hmq]; exact (Int.ofNat_tmod _ _).symm
            have hmi : (mq : Int) < (bytes.length : Int) := by omega
            have hm0 : (0 : Int) ≤ (mq : Int) := by omega
            have hkp0 : (0 : Int) ≤ (kp : Int) := by omega
            have hle1 : (sz : Int) ≤ 1048576 := by omega
            have hls : (la : Int) ≤ (sz : Int) := by omega
            have hw1 : IntKind.i64.wrap ((sz : Int) - la) = (sz : Int) - la := IntWalk.i64_in _ (by omega)
            have hw2 : IntKind.i64.wrap ((sz : Int) - la + 1) = (sz : Int) - la + 1 := IntWalk.i64_in _ (by omega)
            have hw3 : IntKind.i64.wrap ((la : Int) + kp) = (la : Int) + kp := IntWalk.i64_in _ (by omega)
            have HR2 := Lib.hid hrest2
            clear hrest2 hkr hgd hbx hbcell hmq hbe
            go_wp2_with fail
            go_quiet (first | (go_at_call 315; exact quiet_same (HR2.out _)))
            clear hw1 hw2 hm1 hm2
            go_wp2_with fail
            clear hw3
            go_region
            all_goals
              go_wp2_with fail
              have hf := HKEY.out (wr.drewN (nq + 1)) _ ((Chg.refl _ wr).drewN _) (Chg.refl _ _)
              rw [HFINE.out] at hf
              obtain ⟨g1, g2, g3, g4⟩ := hf
              exact ⟨⟨q + 1, _, by omega, by go_num, g1, g2, g3, g4⟩, by simp [intOf]; omega⟩
        · have hqe : q = D.files.length := by omega
          rw [hqe, mixF_all] at hDI
          have hge' : ¬ ((q : Int) < (ids.length : Int)) := by have := HIDN.out; omega
          have k5 := hDI.blk.cell 5
          have k6 := hDI.blk.cell 6
          have k7 := hDI.blk.cell 7
          have k8 := hDI.blk.cell 8
          have k9 := hDI.blk.cell 9
          have k10 := hDI.blk.cell 10
          have j5 := hDI.blk.frozen 5
          have j6 := hDI.blk.frozen 6
          have j7 := hDI.blk.frozen 7
          have j8 := hDI.blk.frozen 8
          have j9 := hDI.blk.frozen 9
          have j10 := hDI.blk.frozen 10
          simp at k5 k6 k7 k8 k9 k10
          have HDI2 := Lib.hid hDI
          have HCM2 := Lib.hid hcM
          have HQE := Lib.hid hqe
          clear hDI hcM hcB hff hqe
          go_wp2_with fail
          first | go_end0 | refine bodyPost_ret (results_none rfl _ _ _) rfl ?_
          obtain ⟨W5, hW5⟩ : ∃ W5, W5 = (((((wr.setCell ⟨d, 5, none⟩ (.int .i64 0)).setCell ⟨d, 6, none⟩ (.int .i64 0)).setCell ⟨d, 7, none⟩ (.slice none 0 0)).setCell ⟨d, 8, none⟩ (.int .i64 0)).setCell ⟨d, 9, none⟩ (.int .i64 0)).setCell ⟨d, 10, none⟩ (.slice none 0 0) := ⟨_, rfl⟩
          have hset : Chg (fun k => k = d) wr W5 := by
            rw [hW5]
            exact Chg.setOwn (Chg.setOwn (Chg.setOwn (Chg.setOwn (Chg.setOwn (Chg.setOwn (Chg.refl _ _) _ _) _ _) _ _) _ _) _ _) _ _
          have hb5 := (((((HDI2.out.blk.set_ 5 (.int .i64 0)).set_ 6 (.int .i64 0)).set_ 7 (.slice none 0 0)).set_ 8 (.int .i64 0)).set_ 9 (.int .i64 0)).set_ 10 (.slice none 0 0)
          rw [← hW5] at hb5
          have hfin := HDI2.out.setD hset 0 0 [] 0 D.off (.slice none 0 0) (by simpa using hb5) own_nil (by simp [Value.ownBlock])
          have hs0 := HCM2.out.size
          have hs1 := hset.size
          have hfin2 := hfin.more (N := Mx M w W5) (fun k hk => by
            rcases hk with e | e
            · exact .inl e
            · exact .inr ⟨e.1, by omega⟩) (mx_lt H.out.lt (by omega))
          have hcm : Chg M w W5 := HCM2.out.trans hset (fun k _ e => by rw [e]; exact H.out.mine _ (.inl rfl))
          have hfd : failD D names bytes = { D with lasts := Lq, names := Lq, queue := [], files := D.files.mapIdx (fileFix bytes), cutL := 0, cutN := 0, cutB := [], fullL := 0 } := by
            unfold failD
            rw [HK.out, HLQ.out]
            rfl
          rw [← hfd] at hfin2
          rw [hW5] at hfin2 hcm
          exact ⟨rfl, ⟨_, hfin2⟩, hcm⟩
end Go.Proofs.YtljabmkmngbhkaaGreatDoor
