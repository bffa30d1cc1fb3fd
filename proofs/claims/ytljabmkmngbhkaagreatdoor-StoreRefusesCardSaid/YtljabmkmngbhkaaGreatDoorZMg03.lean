/-
  The disk: contract of do (names change).
  What a grown slice changes. Plain; no condition.
  The disk: maps.Clone; rename.
-/
import Derived.Test.YtljabmkmngbhkaaGreatDoorZMg02
import Derived.Test.YtljabmkmngbhkaaGreatDoorZMg00
import Derived.Laws.AppendOwn
import Derived.Shelf.SlMaps.Clone
namespace Go.Proofs.YtljabmkmngbhkaaGreatDoor
open Go.RowKit
set_option linter.unusedVariables false
set_option linter.unusedSimpArgs false

theorem ntells_some {f : Value → Option Value} {ids : List Nat} {l : Names} (h : NTells f ids l) (n : ByteArray) : (f (.string n)).isSome = (look l n).isSome := by
  cases hl : look l n with
  | none => rw [ntells_miss h hl]; rfl
  | some i => rw [ntells_hit h hl]; rfl
theorem ntells_drop {f : Value → Option Value} {ids : List Nat} {l : Names} (h : NTells f ids l) (n : ByteArray) : NTells (upd f (.string n) none) ids (dropN n l) := by
  intro k v
  by_cases hk : k = .string n
  · subst hk
    rw [upd_same]
    constructor
    · intro e; cases e
    · rintro ⟨p, hp, e, _⟩
      injection e with e
      exact absurd e.symm (mem_dropN.1 hp).2
  · rw [upd_other _ _ hk, h k v]
    constructor
    · rintro ⟨p, hp, e1, e2⟩
      exact ⟨p, mem_dropN.2 ⟨hp, fun e => hk (by rw [e1, e])⟩, e1, e2⟩
    · rintro ⟨p, hp, e1, e2⟩
      exact ⟨p, (mem_dropN.1 hp).1, e1, e2⟩
theorem ntells_ins {f : Value → Option Value} {ids : List Nat} {l : Names} (h : NTells f ids l) (n : ByteArray) (i : Nat) : NTells (upd f (.string n) (some (fptr ids i))) ids (insN n i (dropN n l)) := by
  intro k v
  by_cases hk : k = .string n
  · subst hk
    rw [upd_same]
    constructor
    · intro e; cases e; exact ⟨_, mem_insN.2 (.inl rfl), rfl, rfl⟩
    · rintro ⟨p, hp, e, hv⟩
      rcases mem_insN.1 hp with rfl | hp
      · rw [hv]
      · injection e with e
        exact absurd e.symm (mem_dropN.1 hp).2
  · rw [upd_other _ _ hk, h k v]
    constructor
    · rintro ⟨p, hp, e1, e2⟩
      exact ⟨p, mem_insN.2 (.inr (mem_dropN.2 ⟨hp, fun e => hk (by rw [e1, e])⟩)), e1, e2⟩
    · rintro ⟨p, hp, e1, e2⟩
      rcases mem_insN.1 hp with rfl | hp
      · exact absurd e1 hk
      · exact ⟨p, (mem_dropN.1 hp).1, e1, e2⟩
theorem NTells.more {f : Value → Option Value} {ids ids' : List Nat} {l : Names} (h : NTells f ids l) (hp : ids <+: ids') (hl : ∀ p ∈ l, p.2 < ids.length) : NTells f ids' l := by
  obtain ⟨t, rfl⟩ := hp
  intro k v
  rw [h k v]
  constructor
  · rintro ⟨p, hpl, e1, e2⟩
    refine ⟨p, hpl, e1, ?_⟩
    rw [e2]; unfold fptr
    rw [List.getD_eq_getElem?_getD, List.getD_eq_getElem?_getD, List.getElem?_append_left (hl p hpl)]
  · rintro ⟨p, hpl, e1, e2⟩
    refine ⟨p, hpl, e1, ?_⟩
    rw [e2]; unfold fptr
    rw [List.getD_eq_getElem?_getD, List.getD_eq_getElem?_getD, List.getElem?_append_left (hl p hpl)]
theorem stepCells_len (ids : List Nat) (s : StepV) : (stepCells ids s).length = s.length * 2 := by
  induction s with
  | nil => rfl
  | cons x xs ih => simp [stepCells] at ih ⊢; omega
theorem stepCells_at (ids : List Nat) (A M : StepV) (c : ByteArray × Option Nat) : (stepCells ids (A ++ c :: M))[A.length * 2]? = some (.string c.1) ∧ (stepCells ids (A ++ c :: M))[A.length * 2 + 1]? = some (tgt ids c.2) := by
  have e : stepCells ids (A ++ c :: M) = stepCells ids A ++ ([.string c.1, tgt ids c.2] ++ stepCells ids M) := by simp [stepCells]
  have hl := stepCells_len ids A
  rw [e]
  refine ⟨?_, ?_⟩ <;> (rw [List.getElem?_append_right (by omega)]; rw [hl]; simp)
theorem doStep_snoc (l : Names) (A : StepV) (c : ByteArray × Option Nat) : doStep l (A ++ [c]) = doOne (doStep l A) c := by simp [doStep]

set_option maxRecDepth 100000 in
set_option maxHeartbeats 2000000 in
theorem disk_do (b : Nat) (ids : List Nat) (l : Names) (s : StepV) (v : Value) (k : Nat) (hl : NamesOk l k) (hs : StepOk s k) (w : World) (h : NMap w b ids l) (ho : Own w 312 2 v s.length (stepCells ids s)) :
    Calls Tryz.prog 282 #[.map (some b), v] w fun e w' => e = .returned (.tuple #[]) ∧ NMap w' b ids (doStep l s) ∧ Chg (fun j => j = b) w w' := by
  obtain ⟨a, cap, rfl, hcap, hn, hread⟩ := ho.reads
  have hbne : ∀ j, (Value.slice a s.length cap).ownBlock = some j → j ≠ b := fun j hj => by
    obtain ⟨cs, hb⟩ := ho.typed hj
    obtain ⟨_, _, hm, _⟩ := h
    exact hb.ne_map hm
  have H := Lib.hid h
  have HRD := Lib.hid hread
  have HBN := Lib.hid hbne
  have HL := Lib.hid hl
  have HS := Lib.hid hs
  clear h ho hread hbne hl hs
  go_enter Tryz.func282, Tryz.ntmps282
  go_wp2_with fail
  go_loopw [8] (fun i wr => ∃ A R, s = A ++ R ∧ i = .int .i64 A.length ∧ NMap wr b ids (doStep l A) ∧ Chg (fun j => j = b) w wr) (fun i _ => s.length - (intOf i).toNat)
  case atStart => exact ⟨[], s, rfl, rfl, H.out, Chg.refl _ _⟩
  case round =>
    obtain ⟨A, R, hs, rfl, hm, hc⟩ := hrel
    cases R with
    | nil =>
      have hge : ¬ ((A.length : Int) < (s.length : Int)) := by rw [hs]; simp
      rw [List.append_nil] at hs
      rw [← hs] at hm
      have HM := Lib.hid hm
      clear hs hm
      go_wp2_with fail
      first | go_end0 | refine bodyPost_ret (results_none rfl _ _ _) rfl ?_
      exact ⟨rfl, HM.out, hc⟩
    | cons c M =>
      obtain ⟨q0, q1⟩ := stepCells_at ids A M c
      rw [← hs] at q0 q1
      have hlt0 : A.length < s.length := by rw [hs]; simp
      have hlt : (A.length : Int) < (s.length : Int) := by omega
      have hge : (0 : Int) ≤ (A.length : Int) := by omega
      obtain ⟨bk, rfl, hbk, hob, hcell⟩ := HRD.out (by omega)
      have hbb := HBN.out bk hob
      have z0 := (hc.cell (p := ⟨bk, _, none⟩) hbk hbb).trans (hcell _ _ q0)
      have z1 := (hc.cell (p := ⟨bk, _, none⟩) hbk hbb).trans (hcell _ _ q1)
      have hcs := HS.out c (by rw [hs]; simp)
      have hok : NamesOk (doStep l A) k := HL.out.doStep (fun x hx => HS.out x (by rw [hs]; simp [hx]))
      obtain ⟨lk, hlk⟩ := skey_of c.1 (by have := hcs.1; unfold maxLen; omega)
      have hs2 : s = (A ++ [c]) ++ M := by rw [hs]; simp
      have HS2 := Lib.hid hs2
      obtain ⟨n, f, hmap, htl, hnl⟩ := hm
      have hlen := dropN_len (n := c.1) hok.one
      have hsome := ntells_some htl c.1
      have hbl := hmap.lt
      clear hs hs2 q0 q1 hcell hcs hok
      have hwr := hc.size
      cases hc2 : c.2 with
      | none =>
        rw [hc2, show tgt ids none = Value.pointer none from rfl] at z1
        obtain ⟨w4, hdel, hm4, hc4, hs4⟩ := (hmap.chg (S := fun _ => False) (w' := wr.alloc (.cells #[.string c.1, .pointer none] 312)) cgS (by simp)).drop (ty := 0) skey_law Tryz.underlying87 hlk
        have hdel' : ∀ ty, (Builtin.delete_ #[87, 9] ty #[.map (some b), .string c.1]).run Tryz.prog (wr.alloc (.cells #[.string c.1, .pointer none] 312)) = .ok (.tuple #[]) w4 := fun ty => hdel
        have hfin : NMap w4 b ids (doStep l (A ++ [c])) := by
          refine ⟨_, _, hm4, ?_, ?_⟩
          · rw [doStep_snoc]; unfold doOne; rw [hc2]; exact ntells_drop htl c.1
          · rw [doStep_snoc]; unfold doOne; rw [hc2]
            simp only
            rw [hlen, hsome, hnl]
        have hcw : Chg (fun j => j = b) w w4 := (hc.alloc _).then hc4
        have HF := Lib.hid hfin
        have HC := Lib.hid hcw
        clear hdel hm4 hc4 hs4 hfin hcw hlk hmap htl hnl hlen hsome hc hc2
        go_wp2_with fail
        exact ⟨⟨A ++ [c], M, HS2.out, by simp, HF.out, HC.out⟩, by simp [intOf]; omega⟩
      | some i =>
        rw [hc2, show tgt ids (some i) = fptr ids i from rfl] at z1
        obtain ⟨w4, hup, hm4, hc4, hs4⟩ := (hmap.chg (S := fun _ => False) (w' := wr.alloc (.cells #[.string c.1, fptr ids i] 312)) cgS (by simp)).store skey_law Tryz.underlying87 hlk (fptr ids i)
        have hfin : NMap w4 b ids (doStep l (A ++ [c])) := by
          refine ⟨_, _, hm4, ?_, ?_⟩
          · rw [doStep_snoc]; unfold doOne; rw [hc2]; exact ntells_ins htl c.1 i
          · rw [doStep_snoc]; unfold doOne; rw [hc2]
            simp only
            rw [insN_len, hlen, hsome, hnl]
            cases hlo : look (doStep l A) c.1 with
            | none => simp
            | some j =>
              have := List.length_pos_of_mem (look_some hlo)
              simp; omega
        have hcw : Chg (fun j => j = b) w w4 := (hc.alloc _).then hc4
        have HF := Lib.hid hfin
        have HC := Lib.hid hcw
        unfold fptr at z1 hup
        generalize ids.getD i 0 = q at z1 hup
        have hup' : (Instr.mapUpdate 87 (.map (some b)) (.string c.1) (.pointer (some ⟨q, 0, none⟩))).run Tryz.prog (wr.alloc (.cells #[.string c.1, .pointer (some ⟨q, 0, none⟩)] 312)) = .ok () w4 := hup
        clear hup hm4 hc4 hs4 hfin hcw hlk hmap htl hnl hlen hsome hc hc2
        go_wp2_with fail
        exact ⟨⟨A ++ [c], M, HS2.out, by simp, HF.out, HC.out⟩, by simp [intOf]; omega⟩
end Go.Proofs.YtljabmkmngbhkaaGreatDoor
namespace Go.Proofs.YtljabmkmngbhkaaGreatDoor
open Go.RowKit
set_option linter.unusedVariables false
set_option linter.unusedSimpArgs false

theorem Chg.grown {S : Nat → Prop} {w w1 w2 : World} {row : Option Nat} (h : Chg S w w1) (hg : w1.grownBy w2 row) (hr : ∀ k, row = some k → k < w.heap.size → S k) : Chg S w w2 :=
  ⟨hg.os.trans h.os, hg.tape.trans h.tape, hg.output.trans h.output, Nat.le_trans h.size hg.size, fun k hk hn =>
    (hg.block k (Nat.lt_of_lt_of_le hk h.size) (fun e => hn (hr k e.symm hk))).trans (h.block k hk hn)⟩
theorem Chg.setOwn {w w1 : World} {g : Nat} (h : Chg (fun k => k = g) w w1) (i : Nat) (u : Value) : Chg (fun k => k = g) w (w1.setCell ⟨g, i, none⟩ u) := Chg.setCell h (fun _ => rfl) u
end Go.Proofs.YtljabmkmngbhkaaGreatDoor
namespace Go.Proofs.YtljabmkmngbhkaaGreatDoor
open Go.RowKit
set_option linter.unusedVariables false
set_option linter.unusedSimpArgs false

set_option maxRecDepth 100000 in
theorem map_clone (b : Nat) (es : Array MapEntry) (clock : Nat) (w : World) (hb : w.heap[b]? = some (.map es clock)) :
    Calls Tryz.prog 205 #[.map (some b)] w fun e w' => e = .returned (.map (some w.heap.size)) ∧ w' = w.alloc (.map es clock) := by
  have hq := fun w => run_eql_map_nil_sl (P := Tryz.prog) w 87 _ _ (some b) Tryz.underlying87
  go_enter Tryz.func205, Tryz.ntmps205
  go_wp2
  rw [run_callFunc_extern (P := Tryz.prog) (f := 281) (fn := Tryz.f281) (by kernel_rfl) (by kernel_rfl) (by kernel_rfl) (by kernel_rfl) (e := Extern.MapsClone.clone) (by kernel_rfl), run_maps_clone_sl w 87 hb]
  simp only [Result.andThen]
  rw [Oper.upon_value]
  go_wp2
  rw [run_typeAssert_map_sl _ 87 20 _ _ _ Tryz.underlying87]
  simp only [Result.andThen]
  rw [Oper.upon_value]
  go_wp2
  go_ret
  exact ⟨rfl, rfl⟩
theorem nmap_clone (b : Nat) (ids : List Nat) (l : Names) (w : World) (h : NMap w b ids l) :
    Calls Tryz.prog 205 #[.map (some b)] w fun e w' => e = .returned (.map (some w.heap.size)) ∧ NMap w' w.heap.size ids l ∧ Chg (fun _ => False) w w' ∧ w'.heap.size = w.heap.size + 1 := by
  obtain ⟨n, f, ⟨es, clock, hb, hs⟩, ht, hn⟩ := h
  exact (map_clone b es clock w hb).mono fun e w' ⟨he, hw⟩ => by
    subst hw
    exact ⟨he, ⟨n, f, ⟨es, clock, heap_alloc_new w _, hs⟩, ht, hn⟩, cgS, by simp⟩

theorem Chg.grown' {w w1 w2 : World} {row : Option Nat} (h : Chg (fun k => row = some k) w w1) (hg : w1.grownBy w2 row) : Chg (fun k => row = some k) w w2 := h.grown hg fun k e _ => e
theorem own_nil {w : World} {e : TypeId} {size : Nat} : Own w e size (.slice none 0 0) 0 [] := Own.nil w e size
theorem info_step : (Tryz.prog.info? 421).map (fun i => (i.zero, i.size, i.bytes)) = some (some (.slice none 0 0), 1, 24) := by kernel_rfl
theorem fptr_more {ids ids' : List Nat} (hp : ids <+: ids') {i : Nat} (hi : i < ids.length) : fptr ids' i = fptr ids i := by
  obtain ⟨t, rfl⟩ := hp
  unfold fptr
  rw [List.getD_eq_getElem?_getD, List.getD_eq_getElem?_getD, List.getElem?_append_left hi]

set_option maxRecDepth 100000 in
set_option maxHeartbeats 4000000 in
/-- rename: names change, and it is noted. -/
theorem disk_rename1 (d : Nat) (ids : List Nat) (D : DiskV) (y : Lay) (M : Nat → Prop) (s : StepV) (v : Value) (hok : DiskOk D) (hst : StepOk s D.files.length) (hq : D.queue.length ≤ 1000000000) (w : World) (h : DiskIn w d ids D y M) (ho : Own w 312 2 v s.length (stepCells ids s)) (hvM : ∀ k, v.ownBlock = some k → M k) :
    Calls Tryz.prog 207 #[.pointer (some ⟨d, 0, none⟩), v] w fun e w' => e = .returned (.tuple #[]) ∧ (∃ y', DiskIn w' d ids (rename1 s D) y' (Mx M w w')) ∧ Chg M w w' := by
  obtain ⟨i0, hi, hz0, hz1, hz2⟩ := info_parts info_step
  have c2 := h.blk.cell 2
  have c4 := h.blk.cell 4
  have f4 := h.blk.frozen 4
  simp at c2 c4
  have hdl := h.blk.lt
  obtain ⟨hd1, hd2⟩ := h.d_ne
  obtain ⟨va, vc, rfl, hvcap, hvn, _⟩ := ho.reads
  obtain ⟨qa, qc, hqv, hqcap, hqn, _⟩ := h.queue.own.reads
  have hdo := fun W hW => disk_do y.nm ids D.names s _ D.files.length hok.names hst W (h.names.chg (S := fun _ => False) (w' := W) hW (by simp)) (ho.same hW)
  have H := Lib.hid h
  have HO := Lib.hid ho
  have HDO := Lib.hid hdo
  have HVM := Lib.hid hvM
  have HOK := Lib.hid hok
  rw [hqv] at c4
  have HQV := Lib.hid hqv
  clear h ho hdo hvM hqv hok hst
  go_enter Tryz.func207, Tryz.ntmps207
  go_wp2_with fail
  refine (HDO.out w (Chg.refl _ _)).mono ?_
  rintro e w1 ⟨rfl, hn1, hc1⟩
  have c4' := (hc1.cell (p := ⟨d, 4, none⟩) hdl hd1).trans c4
  have f4' := (hc1.frozen (p := ⟨d, 4, none⟩) hdl hd1).trans f4
  have hs1 := hc1.size
  have HN1 := Lib.hid hn1
  have HC1 := Lib.hid hc1
  have hqo : ∀ W, Chg (fun _ => False) w1 W → Own W 421 1 (.slice qa D.queue.length qc) D.queue.length y.svs := fun W hW => by
    have := (H.out.queue.own.chg HC1.out (fun k hk e => (H.out.queue_ne (.inl hk)).2.1 e)).chg hW (by simp)
    rw [HQV.out] at this
    exact this
  have HQO := Lib.hid hqo
  clear hn1 hc1 c2 c4 f4 HDO hqo
  go_wp2_with (at_builtin; refine wpList_own_append _ rfl _ _ _ _ rfl 421 i0 (.slice none 0 0) 1 24 Tryz.underlying89 hi hz0 hz1 hz2 rfl _ _ _ rfl (HQO.out _ cgS) _ 1 [.slice va s.length vc] rfl (Src.ofSlice _ Tryz.underlying89 ⟨w1.heap.size, 0, none⟩ 1 1 _ rfl (World.news_of_block (cs := #[.slice va s.length vc]) (t := 421) (fr := (0, 0)) (heap_alloc_new w1 _)) (by simp [Value.oneCell'])) (by unfold maxLen; omega) (by omega) ?_)
  intro v' w2 hq2 hg2 hvb
  obtain ⟨a2, cap2, rfl, _, _, _⟩ := hq2.reads
  have hqd : (Value.slice qa D.queue.length qc).ownBlock ≠ some d := fun e => (H.out.queue_ne (.inl (by rw [HQV.out]; exact e))).1 rfl
  have hg2' : Chg (fun k => (Value.slice qa D.queue.length qc).ownBlock = some k) w1 w2 := ((Chg.refl _ _).alloc _).grown' hg2
  have f4'' := (hg2'.frozen (p := ⟨d, 4, none⟩) (show d < w1.heap.size by omega) hqd).trans f4'
  have c4'' := (hg2'.cell (p := ⟨d, 4, none⟩) (show d < w1.heap.size by omega) hqd).trans c4'
  have HQ2 := Lib.hid hq2
  have HG2 := Lib.hid hg2'
  have HVB := Lib.hid hvb
  clear hq2 hg2 hg2' hvb c4' f4'
  go_wp2_with fail
  first | go_end0 | refine bodyPost_ret (results_none rfl _ _ _) rfl ?_
  have hset : Chg (fun k => k = d) w2 (w2.setCell ⟨d, 4, none⟩ (.slice a2 (D.queue.length + 1) cap2)) := Chg.setOwn (Chg.refl _ _) _ _
  have hs2 := HG2.out.size
  have hs3 := hset.size
  have hall : Chg (fun k => k = y.nm ∨ y.qv.ownBlock = some k ∨ k = d) w (w2.setCell ⟨d, 4, none⟩ (.slice a2 (D.queue.length + 1) cap2)) :=
    (((HC1.out.mono fun k _ e => .inl e).trans HG2.out (fun k _ e => .inr (.inl (by rw [HQV.out]; exact e)))).trans hset (fun k _ e => .inr (.inr e)))
  have hqne := fun k (hk : QFoot y.qv y.svs k) => H.out.queue_ne hk
  refine ⟨rfl, ⟨{ y with qv := .slice a2 (D.queue.length + 1) cap2, svs := y.svs ++ [.slice va s.length vc] }, ?_, ?_, ?_, ?_, H.out.two, ⟨?_, ?_⟩, ?_, ?_, ?_⟩, ?_⟩
  · have hb := ((H.out.blk.chg HC1.out hd1).chg HG2.out hqd).set_ 4 (.slice a2 (D.queue.length + 1) cap2)
    rw [HQV.out] at hb
    simpa [rename1] using hb
  · refine H.out.files.chg hall fun k hk e => ?_
    obtain ⟨a1, b1, _, d1, _⟩ := H.out.files_ne hk
    rcases e with e | e | e
    · exact b1 e
    · exact d1 (.inl e)
    · exact a1 e
  · refine (HN1.out.chg HG2.out (fun e => ?_)).chg hset (fun e => hd1 e.symm)
    exact (hqne y.nm (.inl (by rw [HQV.out]; exact e))).2.1 rfl
  · refine H.out.lasts.chg hall fun e => ?_
    rcases e with e | e | e
    · exact H.out.two e.symm
    · exact (hqne y.lm (.inl e)).2.2.1 rfl
    · exact hd2 e.symm
  · have hq3 := HQ2.out.chg hset (fun k hk (e : k = d) => ?_)
    · simpa [rename1] using hq3
    · rcases HVB.out with e' | e'
      · exact hqd (by rw [← e', hk, e])
      · rw [e'] at hk; injection hk with hk; omega
  · intro j t ht
    have hsl : y.svs.length = D.queue.length := by have := H.out.queue.own.1; omega
    simp only [rename1] at ht
    by_cases hj : j < D.queue.length
    · rw [List.getElem?_append_left hj] at ht
      obtain ⟨v0, e1, ho⟩ := H.out.queue.step j t ht
      refine ⟨v0, by rw [List.getElem?_append_left (by omega)]; exact e1, ho.chg hall fun k hk e => ?_⟩
      have hn := hqne k (.inr ⟨j, blockAt_some e1 hk⟩)
      rcases e with e | e | e
      · exact hn.2.1 e
      · obtain ⟨cs, hb⟩ := ho.typed hk
        obtain ⟨cs2, hb2⟩ := H.out.queue.own.typed e
        exact hb.ne_ hb2 (by decide) rfl
      · exact hn.1 e
    · rw [List.getElem?_append_right (by omega)] at ht
      have hj0 : j = D.queue.length := by
        have := (List.getElem?_eq_some_iff.1 ht).1
        simp at this; omega
      subst hj0
      simp at ht
      subst ht
      refine ⟨_, by rw [List.getElem?_append_right (by omega), hsl]; simp, HO.out.chg hall fun k hk e => ?_⟩
      obtain ⟨cs, hb⟩ := HO.out.typed hk
      rcases e with e | e | e
      · exact H.out.names.ne_blk hb e
      · obtain ⟨cs2, hb2⟩ := H.out.queue.own.typed e
        exact hb.ne_ hb2 (by decide) rfl
      · exact hb.ne_ H.out.blk (by decide) e
  · refine H.out.cutb.chg hall fun k hk e => ?_
    obtain ⟨a1, b1, c1⟩ := H.out.cut_ne hk
    rcases e with e | e | e
    · exact b1 e
    · obtain ⟨cs, hb⟩ := H.out.cutb.typed hk
      obtain ⟨cs2, hb2⟩ := H.out.queue.own.typed e
      exact hb.ne_ hb2 (by decide) rfl
    · exact a1 e
  · have hm := H.out.mine
    rintro k (e | e | e | e | e | e)
    · exact .inl (hm k (.inl e))
    · exact .inl (hm k (.inr (.inl e)))
    · exact .inl (hm k (.inr (.inr (.inl e))))
    · exact .inl (hm k (.inr (.inr (.inr (.inl e)))))
    · rcases e with e | ⟨j, e⟩
      · rcases HVB.out with e' | e'
        · exact .inl (hm k (.inr (.inr (.inr (.inr (.inl (.inl (by rw [HQV.out, ← e']; exact e))))))))
        · have e2 := e'.symm.trans e
          injection e2 with e2
          obtain ⟨cs, hb⟩ := HQ2.out.typed e
          have := hb.lt
          exact .inr ⟨by omega, by omega⟩
      · obtain ⟨v0, e1, hv0⟩ := blockAt_inv e
        have hsl : y.svs.length = D.queue.length := by have := H.out.queue.own.1; omega
        by_cases hj : j < y.svs.length
        · rw [List.getElem?_append_left hj] at e1
          exact .inl (hm k (.inr (.inr (.inr (.inr (.inl (.inr ⟨j, blockAt_some e1 hv0⟩)))))))
        · rw [List.getElem?_append_right (by omega)] at e1
          have hj0 : j - y.svs.length = 0 := by
            have := (List.getElem?_eq_some_iff.1 e1).1
            simp at this; omega
          rw [hj0] at e1
          simp at e1
          subst e1
          exact .inl (HVM.out k hv0)
    · exact .inl (hm k (.inr (.inr (.inr (.inr (.inr e))))))
  · exact mx_lt H.out.lt (by omega)
  · refine hall.mono fun k _ e => ?_
    rcases e with e | e | e
    · rw [e]; exact H.out.mine _ (.inr (.inr (.inl rfl)))
    · exact H.out.mine _ (.inr (.inr (.inr (.inr (.inl (.inl e))))))
    · rw [e]; exact H.out.mine _ (.inl rfl)
end Go.Proofs.YtljabmkmngbhkaaGreatDoor
