/-
  The document's disk: what it looks like in memory.
-/
import Derived.Test.YtlcggocfkanblaaDiskO
namespace Go.Proofs.Ytlcggocfkanblaa
open Go.RowKit
set_option linter.unusedVariables false
set_option linter.unusedSimpArgs false

/-- Names as the document has them: a number below 0 is none's. -/
abbrev RNms := List (ByteArray × Int)
def nmCells (l : RNms) : List Value := l.flatMap fun p => [.string p.1, .int .i64 p.2]
def ofNames (l : Names) : RNms := l.map fun p => (p.1, (p.2 : Int))
def ofChg (c : ByteArray × Option Nat) : ByteArray × Int := (c.1, match c.2 with | some i => (i : Int) | none => -1)
def ofStep (s : StepV) : RNms := s.map ofChg
def flCells (l : List FileV) : List Value := l.flatMap fun f => [.string f.data, .int .i64 f.lasts]
def RNm (w : World) (v : Value) (l : RNms) : Prop := Own w 97 2 v l.length (nmCells l)

structure RLay where
  fv : Value
  nv : Value
  lv : Value
  qv : Value
  cv : Value
  cn : Int
  cb : List Int
  qs : List Value
def RFt (r : Nat) (y : RLay) (k : Nat) : Prop := k = r ∨ y.fv.ownBlock = some k ∨ y.nv.ownBlock = some k ∨ y.lv.ownBlock = some k ∨ y.qv.ownBlock = some k ∨ (∃ j, blockAt y.qs j = some k) ∨ y.cv.ownBlock = some k
structure RQueue (w : World) (q : List StepV) (qv : Value) (qs : List Value) : Prop where
  own : Own w 108 1 qv q.length qs
  step : ∀ (j : Nat) (s : StepV), q[j]? = some s → ∃ v, qs[j]? = some v ∧ RNm w v (ofStep s)
/-- All but the block of the disk itself. -/
structure RParts (w : World) (D : DiskV) (y : RLay) : Prop where
  files : Own w 99 2 y.fv D.files.length (flCells D.files)
  names : RNm w y.nv (ofNames D.names)
  lasts : RNm w y.lv (ofNames D.lasts)
  queue : RQueue w D.queue y.qv y.qs
  cutb : Own w 3 1 y.cv y.cb.length (intCells y.cb)
def rCells (D : DiskV) (y : RLay) : Array Value := #[.int .i64 D.room, y.fv, y.nv, y.lv, y.qv, .bool D.off, .int .i64 D.cutL, .int .i64 y.cn, y.cv, .int .i64 D.fullL]
structure RIn (w : World) (r : Nat) (D : DiskV) (y : RLay) (M : Nat → Prop) : Prop where
  blk : Blk w r 84 (rCells D y)
  parts : RParts w D y
  cnb : (-9223372036854775808 ≤ y.cn ∧ y.cn ≤ 9223372036854775807) ∧ ∀ x ∈ y.cb, -9223372036854775808 ≤ x ∧ x ≤ 9223372036854775807
  mine : ∀ k, RFt r y k → M k
  lt : ∀ k, M k → k < w.heap.size
/-- The cut that is set is the disk's; where none is set its numbers are of no matter. -/
def CutEq (D : DiskV) (y : RLay) : Prop := D.cutL ≠ 0 → y.cn = D.cutN ∧ y.cb = D.cutB
def RAt (w : World) (r : Nat) (D : DiskV) (M : Nat → Prop) : Prop := DiskOk D ∧ ∃ y, RIn w r D y M ∧ CutEq D y
def RPost (w : World) (r : Nat) (M : Nat → Prop) (D' : DiskV) (w' : World) : Prop := RAt w' r D' (Mx M w w') ∧ Chg M w w'

section
variable {w w' w1 : World} {r : Nat} {D : DiskV} {y : RLay} {M S : Nat → Prop}
theorem RNm.chg {v : Value} {l : RNms} (h : RNm w v l) (hc : Chg S w w') (hS : ∀ k, v.ownBlock = some k → ¬ S k) : RNm w' v l := Own.chg h hc hS
theorem RNm.same {v : Value} {l : RNms} (h : RNm w v l) (hc : Chg (fun _ => False) w w') : RNm w' v l := Own.same h hc
theorem RQueue.chg {q : List StepV} {qv : Value} {qs : List Value} (h : RQueue w q qv qs) (hc : Chg S w w') (hS : ∀ k, (qv.ownBlock = some k ∨ ∃ j, blockAt qs j = some k) → ¬ S k) : RQueue w' q qv qs :=
  ⟨h.own.chg hc fun k hk => hS k (.inl hk), fun j s hs => by
    obtain ⟨v, e, ho⟩ := h.step j s hs
    exact ⟨v, e, ho.chg hc fun k hk => hS k (.inr ⟨j, blockAt_some e hk⟩)⟩⟩
theorem RQueue.lenq {q : List StepV} {qv : Value} {qs : List Value} (h : RQueue w q qv qs) : qs.length = q.length := by have := h.own.1; omega
theorem RQueue.stepTyped {q : List StepV} {qv : Value} {qs : List Value} (h : RQueue w q qv qs) {j k : Nat} (hk : blockAt qs j = some k) : ∃ cs, Blk w k 97 cs := by
  obtain ⟨v, e, hv⟩ := blockAt_inv hk
  have hl := h.lenq
  have hj : j < q.length := by rw [← hl]; exact (List.getElem?_eq_some_iff.1 e).1
  obtain ⟨v', e2, ho⟩ := h.step j _ (List.getElem?_eq_getElem hj)
  rw [e] at e2; cases e2
  exact ho.typed hv
theorem RIn.ne (h : RIn w r D y M) : (∀ k, y.fv.ownBlock = some k → k ≠ r) ∧ (∀ k, y.nv.ownBlock = some k → k ≠ r) ∧ (∀ k, y.lv.ownBlock = some k → k ≠ r) ∧ (∀ k, y.qv.ownBlock = some k → k ≠ r) ∧ (∀ j k, blockAt y.qs j = some k → k ≠ r) ∧ (∀ k, y.cv.ownBlock = some k → k ≠ r) := by
  refine ⟨fun k hk => ?_, fun k hk => ?_, fun k hk => ?_, fun k hk => ?_, fun j k hk => ?_, fun k hk => ?_⟩
  · obtain ⟨cs, hb⟩ := h.parts.files.typed hk
    exact hb.ne_ h.blk (by decide)
  · obtain ⟨cs, hb⟩ := Own.typed h.parts.names hk
    exact hb.ne_ h.blk (by decide)
  · obtain ⟨cs, hb⟩ := Own.typed h.parts.lasts hk
    exact hb.ne_ h.blk (by decide)
  · obtain ⟨cs, hb⟩ := h.parts.queue.own.typed hk
    exact hb.ne_ h.blk (by decide)
  · obtain ⟨cs, hb⟩ := h.parts.queue.stepTyped hk
    exact hb.ne_ h.blk (by decide)
  · obtain ⟨cs, hb⟩ := h.parts.cutb.typed hk
    exact hb.ne_ h.blk (by decide)
theorem RIn.chg (h : RIn w r D y M) (hc : Chg S w w') (hS : ∀ k, M k → ¬ S k) : RIn w' r D y M :=
  ⟨h.blk.chg hc (hS _ (h.mine _ (.inl rfl))),
   ⟨h.parts.files.chg hc fun k hk => hS k (h.mine k (.inr (.inl hk))), h.parts.names.chg hc fun k hk => hS k (h.mine k (.inr (.inr (.inl hk)))), h.parts.lasts.chg hc fun k hk => hS k (h.mine k (.inr (.inr (.inr (.inl hk))))),
    h.parts.queue.chg hc (fun k hk => hS k (h.mine k (by
      rcases hk with e | e
      · exact .inr (.inr (.inr (.inr (.inl e))))
      · exact .inr (.inr (.inr (.inr (.inr (.inl e)))))))),
    h.parts.cutb.chg hc fun k hk => hS k (h.mine k (.inr (.inr (.inr (.inr (.inr (.inr hk)))))))⟩, h.cnb, h.mine, fun k hk => Nat.lt_of_lt_of_le (h.lt k hk) hc.size⟩
theorem RIn.same (h : RIn w r D y M) (hc : Chg (fun _ => False) w w') : RIn w' r D y M := h.chg hc (by simp)
theorem RIn.more {N : Nat → Prop} (h : RIn w r D y M) (hMN : ∀ k, M k → N k) (hlt : ∀ k, N k → k < w.heap.size) : RIn w r D y N :=
  { h with mine := fun k hk => hMN k (h.mine k hk), lt := hlt }
theorem RAt.chg (h : RAt w r D M) (hc : Chg S w w') (hS : ∀ k, M k → ¬ S k) : RAt w' r D M := ⟨h.1, h.2.imp fun y hy => ⟨hy.1.chg hc hS, hy.2⟩⟩
theorem RAt.same (h : RAt w r D M) (hc : Chg (fun _ => False) w w') : RAt w' r D M := h.chg hc (by simp)
theorem RAt.lt (h : RAt w r D M) : ∀ k, M k → k < w.heap.size := by
  obtain ⟨_, y, hy, _⟩ := h
  exact hy.lt
theorem RAt.more {N : Nat → Prop} (h : RAt w r D M) (hMN : ∀ k, M k → N k) (hlt : ∀ k, N k → k < w.heap.size) : RAt w r D N := ⟨h.1, h.2.imp fun y hy => ⟨hy.1.more hMN hlt, hy.2⟩⟩
/-- The parts when only the disk's own block has changed. -/
theorem RIn.own (h : RIn w r D y M) (hc : Chg (fun k => k = r) w w') : RParts w' D y := by
  obtain ⟨n1, n2, n3, n4, n5, n6⟩ := h.ne
  exact ⟨h.parts.files.chg hc n1, h.parts.names.chg hc n2, h.parts.lasts.chg hc n3, h.parts.queue.chg hc (fun k hk e => by
    rcases hk with hk | ⟨j, hk⟩
    · exact n4 k hk e
    · exact n5 j k hk e), h.parts.cutb.chg hc n6⟩
theorem RPost.same (h : RAt w' r D M) (hM : ∀ k, M k → k < w.heap.size) (hc : Chg M w w') : RPost w r M D w' :=
  ⟨h.more (fun k hk => .inl hk) (mx_lt hM hc.size), hc⟩
theorem RPost.trans {D1 D2 : DiskV} (h1 : RPost w r M D1 w1) (h2 : RAt w1 r D1 (Mx M w w1) → RPost w1 r (Mx M w w1) D2 w') : RPost w r M D2 w' := by
  obtain ⟨ha, hc⟩ := h1
  obtain ⟨hb, hc2⟩ := h2 ha
  have h0 := hc.size
  have h1 := hc2.size
  refine ⟨hb.more ?_ ?_, hc.trans hc2 ?_⟩
  · rintro k ((h | h) | h)
    · exact .inl h
    · exact .inr ⟨h.1, by omega⟩
    · exact .inr ⟨by omega, h.2⟩
  · rintro k (h | h)
    · have := ha.lt k (.inl h); omega
    · exact h.2
  · rintro k hk (h | h)
    · exact h
    · omega
theorem nmCells_len (l : RNms) : (nmCells l).length = l.length * 2 := by
  induction l with
  | nil => rfl
  | cons p l ih => simp only [nmCells, List.flatMap_cons, List.length_append, List.length_cons, List.length_nil] at *; omega
theorem nmCells_at (A B : RNms) (p : ByteArray × Int) : (nmCells (A ++ p :: B))[A.length * 2]? = some (.string p.1) ∧ (nmCells (A ++ p :: B))[A.length * 2 + 1]? = some (.int .i64 p.2) := by
  have e : nmCells (A ++ p :: B) = nmCells A ++ (.string p.1 :: .int .i64 p.2 :: nmCells B) := by simp [nmCells]
  have hl := nmCells_len A
  rw [e, List.getElem?_append_right (by omega), List.getElem?_append_right (by omega), hl]
  simp
theorem nmCells_snoc (l : RNms) (p : ByteArray × Int) : nmCells (l ++ [p]) = nmCells l ++ [.string p.1, .int .i64 p.2] := by simp [nmCells]
theorem flCells_len (l : List FileV) : (flCells l).length = l.length * 2 := by
  induction l with
  | nil => rfl
  | cons p l ih => simp only [flCells, List.flatMap_cons, List.length_append, List.length_cons, List.length_nil] at *; omega
theorem flCells_at (A B : List FileV) (f : FileV) : (flCells (A ++ f :: B))[A.length * 2]? = some (.string f.data) ∧ (flCells (A ++ f :: B))[A.length * 2 + 1]? = some (.int .i64 f.lasts) := by
  have e : flCells (A ++ f :: B) = flCells A ++ (.string f.data :: .int .i64 f.lasts :: flCells B) := by simp [flCells]
  have hl := flCells_len A
  rw [e, List.getElem?_append_right (by omega), List.getElem?_append_right (by omega), hl]
  simp
theorem flCells_get (l : List FileV) (i : Nat) (hi : i < l.length) : (flCells l)[i * 2]? = some (.string l[i].data) ∧ (flCells l)[i * 2 + 1]? = some (.int .i64 l[i].lasts) := by
  have e : l = l.take i ++ l[i] :: l.drop (i + 1) := by simp
  have hl : (l.take i).length = i := by simp; omega
  have := flCells_at (l.take i) (l.drop (i + 1)) l[i]
  rw [← e, hl] at this
  exact this
theorem flCells_set (l : List FileV) (i : Nat) (hi : i < l.length) (f : FileV) : ((flCells l).set (i * 2) (.string f.data)).set (i * 2 + 1) (.int .i64 f.lasts) = flCells (l.set i f) := by
  have e : l = l.take i ++ l[i] :: l.drop (i + 1) := by simp
  have hl : (l.take i).length = i := by simp; omega
  have hf := flCells_len (l.take i)
  rw [hl] at hf
  have e1 : l.set i f = l.take i ++ f :: l.drop (i + 1) := by rw [List.set_eq_take_append_cons_drop, if_pos hi]
  have e2 : flCells l = flCells (l.take i) ++ (.string l[i].data :: .int .i64 l[i].lasts :: flCells (l.drop (i + 1))) := by
    conv => lhs; rw [e]
    simp only [flCells, List.flatMap_append, List.flatMap_cons, List.cons_append, List.nil_append]
  have e3 : flCells (l.set i f) = flCells (l.take i) ++ (.string f.data :: .int .i64 f.lasts :: flCells (l.drop (i + 1))) := by
    rw [e1]
    simp only [flCells, List.flatMap_append, List.flatMap_cons, List.cons_append, List.nil_append]
  rw [e2, e3, List.set_append_right _ _ (by omega), List.set_append_right _ _ (by omega), hf]
  simp
end

/-! ### The plain lists -/
def wgo (c : ByteArray × Int) : Bool → RNms → RNms
  | put, [] => if put then [] else [c]
  | put, p :: r => if p.1 = c.1 then wgo c put r else if !put && slt c.1 p.1 then c :: p :: wgo c true r else p :: wgo c put r
def withR (l : RNms) (c : ByteArray × Int) : RNms := wgo c (decide (c.2 < 0)) l
def allR (l : RNms) (s : RNms) : RNms := s.foldl withR l
theorem wgo_true (c : ByteArray × Int) (l : Names) : wgo c true (ofNames l) = ofNames (dropN c.1 l) := by
  induction l with
  | nil => rfl
  | cons p r ih =>
    show wgo c true ((p.1, (p.2 : Int)) :: ofNames r) = _
    unfold wgo
    by_cases h : p.1 = c.1
    · rw [if_pos h, ih]
      simp [dropN, h]
    · rw [if_neg h, ih]
      simp [dropN, h, ofNames]
theorem wgo_false (n : ByteArray) (i : Nat) (l : Names) : wgo (n, (i : Int)) false (ofNames l) = ofNames (insN n i (dropN n l)) := by
  induction l with
  | nil => rfl
  | cons p r ih =>
    show wgo (n, (i : Int)) false ((p.1, (p.2 : Int)) :: ofNames r) = _
    unfold wgo
    by_cases h : p.1 = n
    · rw [if_pos h, ih]
      simp [dropN, h]
    · have hd : dropN n (p :: r) = p :: dropN n r := by simp [dropN, h]
      rw [if_neg h, hd, insN]
      by_cases hs : slt n p.1 = true
      · rw [if_pos (by simpa using hs), if_pos hs, wgo_true]
        rfl
      · rw [if_neg (by simpa using hs), if_neg hs, ih]
        rfl
theorem withR_eq (l : Names) (c : ByteArray × Option Nat) : withR (ofNames l) (ofChg c) = ofNames (doOne l c) := by
  obtain ⟨n, o⟩ := c
  cases o with
  | none => exact wgo_true (n, -1) l
  | some i =>
    show wgo (n, (i : Int)) (decide ((i : Int) < 0)) (ofNames l) = _
    rw [show decide ((i : Int) < 0) = false from by simp]
    exact wgo_false n i l
theorem allR_eq (l : Names) (s : StepV) : allR (ofNames l) (ofStep s) = ofNames (doStep l s) := by
  induction s generalizing l with
  | nil => rfl
  | cons c s ih =>
    show allR (withR (ofNames l) (ofChg c)) (ofStep s) = _
    rw [withR_eq, ih]
    rfl
theorem wgo_len (c : ByteArray × Int) : ∀ (put : Bool) (l : RNms), (wgo c put l).length ≤ l.length + 1
  | put, [] => by unfold wgo; split <;> simp
  | put, p :: r => by
    unfold wgo
    split
    · have := wgo_len c put r; simp; omega
    · split
      · have : (wgo c true r).length ≤ r.length := wgo_len2 c r
        simp; omega
      · have := wgo_len c put r; simp; omega
where wgo_len2 (c : ByteArray × Int) : ∀ l : RNms, (wgo c true l).length ≤ l.length
  | [] => by simp [wgo]
  | p :: r => by
    have := wgo_len2 c r
    unfold wgo
    split
    · simp; omega
    · simp; omega
def findN (l : RNms) (n : ByteArray) : Int := match l with | [] => -1 | p :: r => if p.1 = n then p.2 else findN r n
theorem findN_eq (l : Names) (n : ByteArray) : findN (ofNames l) n = match look l n with | some i => (i : Int) | none => -1 := by
  induction l with
  | nil => rfl
  | cons p r ih =>
    show findN ((p.1, (p.2 : Int)) :: ofNames r) n = _
    rw [look_cons]
    unfold findN
    split
    · rfl
    · exact ih
end Go.Proofs.Ytlcggocfkanblaa
