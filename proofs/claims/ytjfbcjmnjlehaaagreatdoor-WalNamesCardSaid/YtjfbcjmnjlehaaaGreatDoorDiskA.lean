/-
  The disk in memory; contracts of may, find, good, rest, spring.
-/
import Derived.Test.YtjfbcjmnjlehaaaGreatDoorProg
import Derived.Test.YtjfbcjmnjlehaaaGreatDoorDiskM
import Derived.Test.YtjfbcjmnjlehaaaGreatDoorOwn
import Derived.Test.YtjfbcjmnjlehaaaGreatDoorMap
import Derived.Deep.DeepMust
import Derived.DeepKeys4
namespace Go.Proofs.YtjfbcjmnjlehaaaGreatDoor
open Go.RowKit
set_option linter.unusedVariables false
set_option linter.unusedSimpArgs false

def fptr (ids : List Nat) (i : Nat) : Value := .pointer (some ⟨ids.getD i 0, 0, none⟩)
def NTells (f : Value → Option Value) (ids : List Nat) (l : Names) : Prop := ∀ k v, f k = some v ↔ ∃ p ∈ l, k = .string p.1 ∧ v = fptr ids p.2
def tgt (ids : List Nat) : Option Nat → Value
  | none => .pointer none
  | some i => fptr ids i
def stepCells (ids : List Nat) (s : StepV) : List Value := s.flatMap fun c => [.string c.1, tgt ids c.2]
def blockAt (l : List Value) (i : Nat) : Option Nat := (l[i]?).bind Value.ownBlock
/-- Where the parts of a disk lie. -/
structure Lay where
  fv : Value
  qv : Value
  cv : Value
  nm : Nat
  lm : Nat
  dvs : List Value
  svs : List Value
def FFoot (ids : List Nat) (fv : Value) (dvs : List Value) (k : Nat) : Prop := k ∈ ids ∨ fv.ownBlock = some k ∨ ∃ i, blockAt dvs i = some k
def QFoot (qv : Value) (svs : List Value) (k : Nat) : Prop := qv.ownBlock = some k ∨ ∃ j, blockAt svs j = some k
/-- The files: the list of their pointers, each one's block, and its bytes. -/
structure DFiles (w : World) (ids : List Nat) (files : List FileV) (fv : Value) (dvs : List Value) : Prop where
  idn : ids.length = files.length
  own : Own w 126 1 fv ids.length (ids.map fun i => .pointer (some ⟨i, 0, none⟩))
  file : ∀ (i : Nat) (f : FileV), files[i]? = some f → ∃ id v, ids[i]? = some id ∧ dvs[i]? = some v ∧ Blk w id 132 #[v, .int .i64 f.lasts] ∧ Own w 5 1 v f.data.size (byteCells f.data)
  dvn : dvs.length = files.length
  idd : ids.Pairwise fun a b => a ≠ b
  dvd : ∀ i j k, i ≠ j → blockAt dvs i = some k → blockAt dvs j ≠ some k
/-- The queue: each step is a slice of changes. -/
structure DQueue (w : World) (ids : List Nat) (queue : List StepV) (qv : Value) (svs : List Value) : Prop where
  own : Own w 185 1 qv queue.length svs
  step : ∀ (j : Nat) (s : StepV), queue[j]? = some s → ∃ v, svs[j]? = some v ∧ Own w 135 2 v s.length (stepCells ids s)
/-- A map of names. -/
def NMap (w : World) (b : Nat) (ids : List Nat) (l : Names) : Prop := ∃ n f, MapAt Tryz.prog 9 w b n f ∧ NTells f ids l ∧ n = l.length
def intCells (l : List Int) : List Value := l.map fun n => .int .i64 n
def DFoot (d : Nat) (ids : List Nat) (y : Lay) (k : Nat) : Prop := k = d ∨ FFoot ids y.fv y.dvs k ∨ k = y.nm ∨ k = y.lm ∨ QFoot y.qv y.svs k ∨ y.cv.ownBlock = some k
structure DiskIn (w : World) (d : Nat) (ids : List Nat) (D : DiskV) (y : Lay) (M : Nat → Prop) : Prop where
  blk : Blk w d 67 #[.int .i64 D.room, y.fv, .map (some y.nm), .map (some y.lm), y.qv, .int .i64 D.cutL, .int .i64 D.cutN, y.cv, .int .i64 D.fullL, .int .i64 0, .slice none 0 0, .bool D.off]
  files : DFiles w ids D.files y.fv y.dvs
  names : NMap w y.nm ids D.names
  lasts : NMap w y.lm ids D.lasts
  two : y.nm ≠ y.lm
  queue : DQueue w ids D.queue y.qv y.svs
  cutb : Own w 3 1 y.cv D.cutB.length (intCells D.cutB)
  mine : ∀ k, DFoot d ids y k → M k
  lt : ∀ k, M k → k < w.heap.size
def DiskAt (w : World) (d : Nat) (ids : List Nat) (D : DiskV) (M : Nat → Prop) : Prop := DiskOk D ∧ ∃ y, DiskIn w d ids D y M
/-- What the disk may own behind a call: what it owned, and new blocks. -/
def Mx (M : Nat → Prop) (w w' : World) (k : Nat) : Prop := M k ∨ (w.heap.size ≤ k ∧ k < w'.heap.size)
def DPost (w : World) (d : Nat) (ids : List Nat) (M : Nat → Prop) (D' : DiskV) (w' : World) : Prop :=
  ∃ ids', DiskAt w' d ids' D' (Mx M w w') ∧ ids <+: ids' ∧ Chg M w w'

section
variable {w w' w1 w2 : World} {d : Nat} {ids : List Nat} {D D' : DiskV} {y : Lay} {M : Nat → Prop} {S : Nat → Prop} {files : List FileV} {fv qv : Value} {dvs svs : List Value} {queue : List StepV}
theorem blockAt_some {l : List Value} {i k : Nat} {v : Value} (h : l[i]? = some v) (hv : v.ownBlock = some k) : blockAt l i = some k := by unfold blockAt; rw [h]; exact hv
theorem blockAt_inv {l : List Value} {i k : Nat} (h : blockAt l i = some k) : ∃ v, l[i]? = some v ∧ v.ownBlock = some k := by
  unfold blockAt at h
  cases hl : l[i]? with
  | none => rw [hl] at h; cases h
  | some v => rw [hl] at h; exact ⟨v, rfl, h⟩
theorem NMap.chg {b : Nat} {l : Names} (h : NMap w b ids l) (hc : Chg S w w') (hb : ¬ S b) : NMap w' b ids l := by
  obtain ⟨n, f, hm, ht, hn⟩ := h
  exact ⟨n, f, hm.chg hc hb, ht, hn⟩
theorem NMap.ne_blk {b k : Nat} {l : Names} {t : TypeId} {cs : Array Value} (h : NMap w b ids l) (hb : Blk w k t cs) : k ≠ b := by
  obtain ⟨n, f, hm, _⟩ := h
  exact hb.ne_map hm
theorem DFiles.chg (h : DFiles w ids files fv dvs) (hc : Chg S w w') (hS : ∀ k, FFoot ids fv dvs k → ¬ S k) : DFiles w' ids files fv dvs :=
  ⟨h.idn, h.own.chg hc fun k hk => hS k (.inr (.inl hk)), fun i f hf => by
      obtain ⟨id, v, e1, e2, hb, ho⟩ := h.file i f hf
      exact ⟨id, v, e1, e2, hb.chg hc (hS _ (.inl (List.mem_of_getElem? e1))), ho.chg hc fun k hk => hS k (.inr (.inr ⟨i, blockAt_some e2 hk⟩))⟩, h.dvn, h.idd, h.dvd⟩
theorem DFiles.at_ (h : DFiles w ids files fv dvs) {i : Nat} (hi : i < files.length) : ∃ id v, ids[i]? = some id ∧ dvs[i]? = some v ∧ Blk w id 132 #[v, .int .i64 files[i].lasts] ∧ Own w 5 1 v files[i].data.size (byteCells files[i].data) :=
  h.file i _ (List.getElem?_eq_getElem hi)
theorem DFiles.typed (h : DFiles w ids files fv dvs) {k : Nat} (hk : FFoot ids fv dvs k) : ∃ t cs, Blk w k t cs ∧ (t = 132 ∨ t = 126 ∨ t = 5) := by
  rcases hk with hk | hk | ⟨i, hk⟩
  · obtain ⟨i, hi, rfl⟩ := List.mem_iff_getElem.1 hk
    obtain ⟨id, v, e1, _, hb, _⟩ := h.at_ (i := i) (by rw [← h.idn]; exact hi)
    rw [List.getElem?_eq_getElem hi] at e1
    cases e1
    exact ⟨_, _, hb, .inl rfl⟩
  · obtain ⟨cs, hb⟩ := h.own.typed hk
    exact ⟨_, _, hb, .inr (.inl rfl)⟩
  · obtain ⟨v, e, hv⟩ := blockAt_inv hk
    have hi : i < files.length := by rw [← h.dvn]; exact (List.getElem?_eq_some_iff.1 e).1
    obtain ⟨id, v', _, e2, _, ho⟩ := h.at_ hi
    rw [e] at e2; cases e2
    obtain ⟨cs, hb⟩ := ho.typed hv
    exact ⟨_, _, hb, .inr (.inr rfl)⟩
theorem DQueue.chg (h : DQueue w ids queue qv svs) (hc : Chg S w w') (hS : ∀ k, QFoot qv svs k → ¬ S k) : DQueue w' ids queue qv svs :=
  ⟨h.own.chg hc fun k hk => hS k (.inl hk), fun j s hs => by
    obtain ⟨v, e1, ho⟩ := h.step j s hs
    exact ⟨v, e1, ho.chg hc fun k hk => hS k (.inr ⟨j, blockAt_some e1 hk⟩)⟩⟩
theorem DQueue.typed (h : DQueue w ids queue qv svs) {k : Nat} (hk : QFoot qv svs k) : ∃ t cs, Blk w k t cs ∧ (t = 185 ∨ t = 135) := by
  rcases hk with hk | ⟨j, hk⟩
  · obtain ⟨cs, hb⟩ := h.own.typed hk
    exact ⟨_, _, hb, .inl rfl⟩
  · obtain ⟨v, e, hv⟩ := blockAt_inv hk
    have hl : svs.length = queue.length := by have := h.own.1; omega
    have hj : j < queue.length := by rw [← hl]; exact (List.getElem?_eq_some_iff.1 e).1
    obtain ⟨v', e2, ho⟩ := h.step j _ (List.getElem?_eq_getElem hj)
    rw [e] at e2; cases e2
    obtain ⟨cs, hb⟩ := ho.typed hv
    exact ⟨_, _, hb, .inr rfl⟩
theorem DiskIn.chg (h : DiskIn w d ids D y M) (hc : Chg S w w') (hS : ∀ k, M k → ¬ S k) : DiskIn w' d ids D y M :=
  { h with
    blk := h.blk.chg hc (hS _ (h.mine _ (.inl rfl))), files := h.files.chg hc fun k hk => hS k (h.mine k (.inr (.inl hk))), names := h.names.chg hc (hS _ (h.mine _ (.inr (.inr (.inl rfl))))), lasts := h.lasts.chg hc (hS _ (h.mine _ (.inr (.inr (.inr (.inl rfl)))))),
    queue := h.queue.chg hc fun k hk => hS k (h.mine k (.inr (.inr (.inr (.inr (.inl hk)))))), cutb := h.cutb.chg hc fun k hk => hS k (h.mine k (.inr (.inr (.inr (.inr (.inr hk)))))), lt := fun k hk => Nat.lt_of_lt_of_le (h.lt k hk) hc.size }
theorem DiskIn.same (h : DiskIn w d ids D y M) (hc : Chg (fun _ => False) w w') : DiskIn w' d ids D y M := h.chg hc (by simp)
theorem DiskIn.more {N : Nat → Prop} (h : DiskIn w d ids D y M) (hMN : ∀ k, M k → N k) (hlt : ∀ k, N k → k < w.heap.size) : DiskIn w d ids D y N :=
  { h with mine := fun k hk => hMN k (h.mine k hk), lt := hlt }
/-- The parts of a disk lie apart from each other. -/
theorem DiskIn.files_ne (h : DiskIn w d ids D y M) {k : Nat} (hk : FFoot ids y.fv y.dvs k) : k ≠ d ∧ k ≠ y.nm ∧ k ≠ y.lm ∧ ¬ QFoot y.qv y.svs k ∧ y.cv.ownBlock ≠ some k := by
  obtain ⟨t, cs, hb, ht⟩ := h.files.typed hk
  refine ⟨hb.ne_ h.blk (by rcases ht with rfl | rfl | rfl <;> decide), h.names.ne_blk hb, h.lasts.ne_blk hb, fun hq => ?_, fun hc => ?_⟩
  · obtain ⟨t', cs', hb', ht'⟩ := h.queue.typed hq
    exact hb.ne_ hb' (by rcases ht with rfl | rfl | rfl <;> rcases ht' with rfl | rfl <;> decide) rfl
  · obtain ⟨cs', hb'⟩ := h.cutb.typed hc
    exact hb.ne_ hb' (by rcases ht with rfl | rfl | rfl <;> decide) rfl
theorem DiskIn.queue_ne (h : DiskIn w d ids D y M) {k : Nat} (hk : QFoot y.qv y.svs k) : k ≠ d ∧ k ≠ y.nm ∧ k ≠ y.lm ∧ y.cv.ownBlock ≠ some k := by
  obtain ⟨t, cs, hb, ht⟩ := h.queue.typed hk
  refine ⟨hb.ne_ h.blk (by rcases ht with rfl | rfl <;> decide), h.names.ne_blk hb, h.lasts.ne_blk hb, fun hc => ?_⟩
  obtain ⟨cs', hb'⟩ := h.cutb.typed hc
  exact hb.ne_ hb' (by rcases ht with rfl | rfl <;> decide) rfl
theorem DiskIn.cut_ne (h : DiskIn w d ids D y M) {k : Nat} (hk : y.cv.ownBlock = some k) : k ≠ d ∧ k ≠ y.nm ∧ k ≠ y.lm := by
  obtain ⟨cs, hb⟩ := h.cutb.typed hk
  exact ⟨hb.ne_ h.blk (by decide), h.names.ne_blk hb, h.lasts.ne_blk hb⟩
theorem DiskIn.d_ne (h : DiskIn w d ids D y M) : d ≠ y.nm ∧ d ≠ y.lm := ⟨h.names.ne_blk h.blk, h.lasts.ne_blk h.blk⟩
/-- One file is another one; the data may lie elsewhere. -/
theorem DFiles.upd (h : DFiles w ids files fv dvs) {i id : Nat} {f f' : FileV} {v v' : Value} (hf : files[i]? = some f) (hid : ids[i]? = some id) (hv : dvs[i]? = some v) (hc : Chg S w w') (hS : ∀ k, FFoot ids fv dvs k → S k → k = id ∨ v.ownBlock = some k)
    (hb : Blk w' id 132 #[v', .int .i64 f'.lasts]) (ho : Own w' 5 1 v' f'.data.size (byteCells f'.data)) (hvb : ∀ k, v'.ownBlock = some k → v.ownBlock = some k ∨ w.heap.size ≤ k) : DFiles w' ids (files.set i f') fv (dvs.set i v') := by
  have hi : i < files.length := (List.getElem?_eq_some_iff.1 hf).1
  obtain ⟨id', v'', e1, e2, hb0, ho0⟩ := h.file i f hf
  rw [hid] at e1; cases e1
  rw [hv] at e2; cases e2
  have hne : ∀ k, FFoot ids fv dvs k → k ≠ id → v.ownBlock ≠ some k → ¬ S k := fun k hk h1 h2 hs => by
    rcases hS k hk hs with e | e
    · exact h1 e
    · exact h2 e
  refine ⟨by simpa using h.idn, h.own.chg hc fun k hk => hne k (.inr (.inl hk)) ?_ ?_, fun j g hg => ?_, by simpa using h.dvn, h.idd, fun a b k hab ha hbk => ?_⟩
  · obtain ⟨cs, hb'⟩ := h.own.typed hk
    exact hb'.ne_ hb0 (by decide)
  · intro e
    obtain ⟨cs, hb'⟩ := h.own.typed hk
    obtain ⟨cs2, hb2⟩ := ho0.typed e
    exact hb'.ne_ hb2 (by decide) rfl
  · by_cases hij : i = j
    · subst hij
      rw [List.getElem?_set_self hi] at hg
      cases hg
      exact ⟨id, v', hid, List.getElem?_set_self (by rw [h.dvn]; exact hi), hb, ho⟩
    · rw [List.getElem?_set_ne hij] at hg
      obtain ⟨jd, u, d1, d2, d3, d4⟩ := h.file j g hg
      refine ⟨jd, u, d1, by rw [List.getElem?_set_ne hij]; exact d2, d3.chg hc (hne jd (.inl (List.mem_of_getElem? d1)) ?_ ?_), d4.chg hc fun k hk => hne k (.inr (.inr ⟨j, blockAt_some d2 hk⟩)) ?_ ?_⟩
      · intro e
        have hp := List.pairwise_iff_getElem.1 h.idd
        obtain ⟨a1, a2⟩ := List.getElem?_eq_some_iff.1 hid
        obtain ⟨b1, b2⟩ := List.getElem?_eq_some_iff.1 d1
        rcases Nat.lt_or_gt_of_ne hij with hlt | hlt
        · exact hp i j a1 b1 hlt (by rw [a2, b2, e])
        · exact hp j i b1 a1 hlt (by rw [a2, b2, e])
      · intro e
        obtain ⟨cs2, hb2⟩ := ho0.typed e
        exact d3.ne_ hb2 (by decide) rfl
      · intro e
        obtain ⟨cs, hb'⟩ := d4.typed hk
        exact hb'.ne_ hb0 (by decide) e
      · intro e
        exact h.dvd i j k hij (blockAt_some hv e) (blockAt_some d2 hk)
  · obtain ⟨u, e1, hu⟩ := blockAt_inv ha
    obtain ⟨u', e2, hu'⟩ := blockAt_inv hbk
    have old : ∀ (c : Nat) (u : Value), (dvs.set i v')[c]? = some u → u.ownBlock = some k → (c ≠ i ∧ blockAt dvs c = some k) ∨ (c = i ∧ v'.ownBlock = some k) := fun c u hc hu => by
      by_cases hci : i = c
      · subst hci
        rw [List.getElem?_set_self (by rw [h.dvn]; exact hi)] at hc
        cases hc
        exact .inr ⟨rfl, hu⟩
      · rw [List.getElem?_set_ne hci] at hc
        exact .inl ⟨fun e => hci e.symm, blockAt_some hc hu⟩
    have fresh : ∀ c, blockAt dvs c = some k → v'.ownBlock = some k → c ≠ i → False := fun c hc hv' hci => by
      rcases hvb k hv' with e | e
      · exact h.dvd c i k hci hc (blockAt_some hv e)
      · obtain ⟨t, cs, hb', _⟩ := h.typed (.inr (.inr ⟨c, hc⟩))
        have := hb'.lt
        omega
    rcases old a u e1 hu with ⟨a1, a2⟩ | ⟨a1, a2⟩ <;> rcases old b u' e2 hu' with ⟨b1, b2⟩ | ⟨b1, b2⟩
    · exact h.dvd a b k hab a2 b2
    · exact fresh a a2 b2 a1
    · exact fresh b b2 a2 b1
    · exact hab (by rw [a1, b1])
theorem DiskAt.chg (h : DiskAt w d ids D M) (hc : Chg S w w') (hS : ∀ k, M k → ¬ S k) : DiskAt w' d ids D M := ⟨h.1, h.2.imp fun y hy => hy.chg hc hS⟩
theorem DiskAt.same (h : DiskAt w d ids D M) (hc : Chg (fun _ => False) w w') : DiskAt w' d ids D M := h.chg hc (by simp)
theorem DiskAt.lt (h : DiskAt w d ids D M) : ∀ k, M k → k < w.heap.size := by
  obtain ⟨_, y, hy⟩ := h
  exact hy.lt
theorem DiskAt.more {N : Nat → Prop} (h : DiskAt w d ids D M) (hMN : ∀ k, M k → N k) (hlt : ∀ k, N k → k < w.heap.size) : DiskAt w d ids D N := ⟨h.1, h.2.imp fun y hy => hy.more hMN hlt⟩
theorem mx_lt (hM : ∀ k, M k → k < w.heap.size) (hc : w.heap.size ≤ w'.heap.size) : ∀ k, Mx M w w' k → k < w'.heap.size := by
  rintro k (h | h)
  · exact Nat.lt_of_lt_of_le (hM k h) hc
  · exact h.2
theorem DPost.same (h : DiskAt w' d ids D M) (hM : ∀ k, M k → k < w.heap.size) (hc : Chg M w w') : DPost w d ids M D w' :=
  ⟨ids, h.more (fun k hk => .inl hk) (mx_lt hM hc.size), List.prefix_refl _, hc⟩
theorem DPost.trans {D1 D2 : DiskV} (h1 : DPost w d ids M D1 w1) (h2 : ∀ ids', DiskAt w1 d ids' D1 (Mx M w w1) → DPost w1 d ids' (Mx M w w1) D2 w2) : DPost w d ids M D2 w2 := by
  obtain ⟨ids1, ha, hp, hc⟩ := h1
  obtain ⟨ids2, hb, hq, hc2⟩ := h2 ids1 ha
  have h0 := hc.size
  have h1 := hc2.size
  refine ⟨ids2, hb.more ?_ ?_, hp.trans hq, hc.trans hc2 ?_⟩
  · rintro k ((h | h) | h)
    · exact .inl h
    · exact .inr ⟨h.1, by omega⟩
    · exact .inr ⟨by omega, h.2⟩
  · rintro k (h | h)
    · have := ha.lt k (.inl h); omega
    · exact h.2
  · rintro k hk (h | h)
    · exact h
    · omega
end

/-! ### Keys that are strings -/
theorem skey_law : Go.Maps.Keyed Tryz.prog 9 := Go.Maps.string_keyed Tryz.underlying9
theorem skey_of (s : ByteArray) (hs : s.size ≤ maxLen) : ∃ l, keyOf Tryz.prog 9 (.string s) = some l := by
  have h1 : decide (1 ≤ Tryz.prog.types.size) = true := by kernel_rfl
  obtain ⟨n, hn⟩ := Nat.exists_eq_add_of_le (of_decide_eq_true h1)
  have e1 : Tryz.prog.keyType 9 = true := by kernel_rfl
  have c1 : Tryz.prog.cellsOf 9 = 1 := by kernel_rfl
  unfold keyOf
  rw [Tryz.underlying9]
  exact ⟨.string s.data.toList, by simp [mapKey, Tryz.underlying9, hs]⟩
theorem zero_pfile (w : World) : (zeroValue 126).run Tryz.prog w = .ok (.pointer none) w := by kernel_rfl

theorem ntells_hit {f : Value → Option Value} {ids : List Nat} {l : Names} {n : ByteArray} {i : Nat} (h : NTells f ids l) (hl : look l n = some i) : f (.string n) = some (fptr ids i) :=
  (h _ _).2 ⟨_, look_some hl, rfl, rfl⟩
theorem ntells_miss {f : Value → Option Value} {ids : List Nat} {l : Names} {n : ByteArray} (h : NTells f ids l) (hl : look l n = none) : f (.string n) = none := by
  cases hf : f (.string n) with
  | none => rfl
  | some v =>
    obtain ⟨p, hp, e, _⟩ := (h _ _).1 hf
    injection e with e
    exact absurd e.symm (look_none hl p hp)

/-! ### The small contracts -/
theorem disk_may_nil (w : World) : Calls Tryz.prog 93 #[.pointer none] w fun e w' => e = .returned (.int .i64 1) ∧ w = w' := by
  go_enter Tryz.func93, Tryz.ntmps93
  go_wp2
  go_ret
  exact ⟨rfl, rfl⟩
theorem disk_may (d : Nat) (b : Bool) (w : World) (h : w.cell? ⟨d, 11, none⟩ = some (.bool b)) :
    Calls Tryz.prog 93 #[.pointer (some ⟨d, 0, none⟩)] w fun e w' => e = .returned (.int .i64 (if b then 13 else 0)) ∧ w = w' := by
  cases b with
  | true =>
    go_enter Tryz.func93, Tryz.ntmps93
    go_wp2
    go_ret
    exact ⟨rfl, rfl⟩
  | false =>
    go_enter Tryz.func93, Tryz.ntmps93
    go_wp2
    go_ret
    exact ⟨rfl, rfl⟩
theorem disk_find_nil (n : ByteArray) (w : World) : Calls Tryz.prog 88 #[.pointer none, .string n] w fun e w' => e = .returned (.tuple #[.pointer none, .int .i64 1]) ∧ w = w' := by
  go_enter Tryz.func88, Tryz.ntmps88
  go_wp2_with fail
  refine (disk_may_nil w).mono ?_
  rintro e w' ⟨rfl, rfl⟩
  go_wp2_with fail
  go_ret2
  exact ⟨rfl, rfl⟩
/-- What find answers. -/
def findV (ids : List Nat) (D : DiskV) (n : ByteArray) : Value × Int := if D.off then (.pointer none, 13) else match look D.names n with | some i => (fptr ids i, 0) | none => (.pointer none, 10)
set_option maxRecDepth 100000 in
set_option maxHeartbeats 2000000 in
theorem disk_find (d : Nat) (ids : List Nat) (D : DiskV) (M : Nat → Prop) (n : ByteArray) (hn : n.size ≤ maxLen) (w : World) (h : DiskAt w d ids D M) :
    Calls Tryz.prog 88 #[.pointer (some ⟨d, 0, none⟩), .string n] w fun e w' => e = .returned (.tuple #[(findV ids D n).1, .int .i64 (findV ids D n).2]) ∧ w = w' := by
  obtain ⟨hok, y, h⟩ := h
  have c11 := h.blk.cell 11
  have c2 := h.blk.cell 2
  simp at c11 c2
  obtain ⟨l, hl⟩ := skey_of n hn
  obtain ⟨m, f, hm, ht, _⟩ := h.names
  have hmay := disk_may d D.off w c11
  unfold findV
  cases ho : D.off with
  | true =>
    rw [ho] at hmay
    have HM := Lib.hid hmay
    clear h hm ht hl hok ho hmay c11
    go_enter Tryz.func88, Tryz.ntmps88
    go_wp2_with fail
    refine HM.out.mono ?_
    rintro e w' ⟨rfl, rfl⟩
    go_wp2_with fail
    go_ret2
    exact ⟨rfl, rfl⟩
  | false =>
    rw [ho] at hmay
    have HM := Lib.hid hmay
    have hlk := hm.look skey_law Tryz.underlying61 (zero_pfile w) hl true
    cases hk : look D.names n with
    | none =>
      rw [ntells_miss ht hk] at hlk
      have hlk' : (Instr.lookup 61 (.map (some y.nm)) (.string n) true).run Tryz.prog w = .ok (.tuple #[.pointer none, .bool false]) w := hlk
      clear h hm ht hl hok ho hmay c11 hlk hk
      go_enter Tryz.func88, Tryz.ntmps88
      go_wp2_with fail
      refine HM.out.mono ?_
      rintro e w' ⟨rfl, rfl⟩
      go_wp2_with fail
      go_ret2
      exact ⟨rfl, rfl⟩
    | some i =>
      rw [ntells_hit ht hk] at hlk
      have hlk' : (Instr.lookup 61 (.map (some y.nm)) (.string n) true).run Tryz.prog w = .ok (.tuple #[.pointer (some ⟨ids.getD i 0, 0, none⟩), .bool true]) w := hlk
      show Calls _ _ _ _ fun e w' => e = .returned (.tuple #[.pointer (some ⟨ids.getD i 0, 0, none⟩), .int .i64 0]) ∧ w = w'
      generalize ids.getD i 0 = q at *
      clear h hm ht hl hok ho hmay c11 hlk hk
      go_enter Tryz.func88, Tryz.ntmps88
      go_wp2_with fail
      refine HM.out.mono ?_
      rintro e w' ⟨rfl, rfl⟩
      go_wp2_with fail
      go_ret2
      exact ⟨rfl, rfl⟩
theorem disk_good (n : ByteArray) (w : World) : Calls Tryz.prog 89 #[.string n] w fun e w' => e = .returned (.bool (goodN n)) ∧ w = w' := by
  by_cases h0 : n.size = 0
  · have hn : n = ⟨#[]⟩ := by
      cases n with | mk a => cases a with | mk l => cases l with | nil => rfl | cons x xs => simp [ByteArray.size] at h0
    subst hn
    go_enter Tryz.func89, Tryz.ntmps89
    go_wp2
    go_ret
    exact ⟨rfl, rfl⟩
  · have hne : ¬ n.toList = [] := fun e => h0 (by
      have : n.toList.length = n.size := by rw [ByteArray.toList_eq]; exact Array.length_toList
      rw [e] at this; simpa using this.symm)
    have hne2 : n.toList.isEmpty = false := by simp [hne]
    by_cases h1 : n.size ≤ 64
    · have hg : goodN n = true := by simp [goodN, h0, h1]
      have h1' : (n.size : Int) ≤ 64 := by omega
      rw [hg]
      go_enter Tryz.func89, Tryz.ntmps89
      go_wp2
      go_ret
      exact ⟨rfl, rfl⟩
    · have hg : goodN n = false := by simp [goodN, h0, h1]
      have h1' : ¬ (n.size : Int) ≤ 64 := by omega
      rw [hg]
      go_enter Tryz.func89, Tryz.ntmps89
      go_wp2
      go_ret
      exact ⟨rfl, rfl⟩
theorem disk_rest (n b : Int) (hb : 0 < b) (hb2 : b ≤ 9223372036854775807) (hn1 : -9223372036854775808 ≤ n) (hn2 : n ≤ 9223372036854775807) (w : World) : Calls Tryz.prog 112 #[.int .i64 n, .int .i64 b] w fun e w' => e = .returned (.int .i64 (restI n b)) ∧ w = w' := by
  unfold restI
  by_cases h : n < 0
  · rw [if_pos h]
    go_enter Tryz.func112, Tryz.ntmps112
    go_wp2
    go_ret
    refine ⟨?_, rfl⟩
    rw [Int.neg_tmod]
    rfl
  · rw [if_neg h, Int.tmod_eq_emod_of_nonneg (by omega)]
    go_enter Tryz.func112, Tryz.ntmps112
    go_wp2
    go_ret
    exact ⟨rfl, rfl⟩
theorem spring_zero (d o : Nat) (w : World) (h : w.cell? ⟨d, o, none⟩ = some (.int .i64 0)) :
    Calls Tryz.prog 134 #[.pointer (some ⟨d, o, none⟩)] w fun e w' => e = .returned (.bool false) ∧ w = w' := by
  go_enter Tryz.func134, Tryz.ntmps134
  go_wp2
  go_ret
  exact ⟨rfl, rfl⟩
theorem spring_some (d o : Nat) (l : Int) (h0 : 0 < l) (h1 : l ≤ 9223372036854775807) (w : World) (h : w.cell? ⟨d, o, none⟩ = some (.int .i64 l)) (hf : w.frozen? ⟨d, o, none⟩ = false) :
    Calls Tryz.prog 134 #[.pointer (some ⟨d, o, none⟩)] w fun e w' => e = .returned (.bool (l - 1 == 0)) ∧ w.setCell ⟨d, o, none⟩ (.int .i64 (l - 1)) = w' := by
  have hne : ¬ l = 0 := by omega
  go_enter Tryz.func134, Tryz.ntmps134
  go_wp2
  go_ret
  exact ⟨rfl, rfl⟩
end Go.Proofs.YtjfbcjmnjlehaaaGreatDoor
