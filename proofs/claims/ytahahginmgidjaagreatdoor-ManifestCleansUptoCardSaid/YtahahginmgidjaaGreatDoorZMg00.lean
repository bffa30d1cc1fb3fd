/-
  The words that all texts of this seat share: a block known whole ('Blk'), and what a call may have changed ('Chg'). Plain lemmas; no condition.
  The disk as plain data: what each call makes of it. No program's text.
  A slice that lies in a block of its own, from the block's head on, with room behind it that may be cut away ('s[:n:n]'); and append onto it, of a slice or of a string. Plain laws over any program; no condition.
-/
import Derived.WalkKit
import Derived.Deep.Draws
import Derived.Deep.QuietTactic
import Derived.BigQuiet
import Derived.Lib.Hide
import Derived.Deep.AppendSrc
import Derived.Deep.AppendLies
namespace Go.Proofs.YtahahginmgidjaaGreatDoor
open Go.RowKit

/-- Block g is just these cells, none frozen. -/
def Blk (w : World) (g : Nat) (t : TypeId) (cs : Array Value) : Prop := w.heap[g]? = some (.cells cs t (0, 0))

/-- From w to w' only blocks of S, and new ones, have changed. -/
structure Chg (S : Nat → Prop) (w w' : World) : Prop where
  os : w'.os = w.os
  tape : w'.tape = w.tape
  output : w'.output = w.output
  size : w.heap.size ≤ w'.heap.size
  block : ∀ k, k < w.heap.size → ¬ S k → w'.heap[k]? = w.heap[k]?

section
variable {S T : Nat → Prop} {w w' w1 w2 : World} {g : Nat} {t : TypeId} {cs : Array Value}

theorem Chg.refl (S : Nat → Prop) (w : World) : Chg S w w := ⟨rfl, rfl, rfl, Nat.le_refl _, fun _ _ _ => rfl⟩
theorem Chg.mono (h : Chg S w w') (hST : ∀ k, k < w.heap.size → S k → T k) : Chg T w w' :=
  ⟨h.os, h.tape, h.output, h.size, fun k hk hn => h.block k hk fun hs => hn (hST k hk hs)⟩
theorem Chg.trans (h : Chg S w w1) (h' : Chg T w1 w2) (hT : ∀ k, k < w.heap.size → T k → S k) : Chg S w w2 :=
  ⟨h'.os.trans h.os, h'.tape.trans h.tape, h'.output.trans h.output, Nat.le_trans h.size h'.size, fun k hk hn =>
    (h'.block k (Nat.lt_of_lt_of_le hk h.size) fun ht => hn (hT k hk ht)).trans (h.block k hk hn)⟩
theorem Chg.then (h : Chg S w w1) (h' : Chg S w1 w2) : Chg S w w2 := h.trans h' fun _ _ h => h
theorem Chg.own (h : Chg (fun _ => False) w w1) {g : Nat} (h' : Chg (fun k => k = g) w1 w2) (hg : w.heap.size ≤ g) : Chg (fun _ => False) w w2 := h.trans h' fun k hk e => by omega
theorem Chg.drew (h : Chg S w w1) : Chg S w w1.drew := ⟨h.os, h.tape, h.output, h.size, h.block⟩
theorem Chg.drewN (h : Chg S w w1) (n : Nat) : Chg S w (w1.drewN n) := ⟨h.os, h.tape, h.output, h.size, h.block⟩
theorem Chg.alloc (h : Chg S w w1) (o : Obj) : Chg S w (w1.alloc o) :=
  ⟨h.os, h.tape, h.output, by have := h.size; simp; omega, fun k hk hn => (Below.heap_alloc w1 o k (Nat.lt_of_lt_of_le hk h.size)).trans (h.block k hk hn)⟩
theorem Chg.setCell (h : Chg S w w1) {p : Addr} (hp : p.block < w.heap.size → S p.block) (u : Value) : Chg S w (w1.setCell p u) :=
  ⟨h.os, h.tape, h.output, by have := h.size; simp [World.setCell]; omega, fun k hk hn =>
    (Below.heap_setCell w1 p u k (fun e => by subst e; exact hn (hp hk))).trans (h.block k hk hn)⟩
theorem Chg.cell (h : Chg S w w') {p : Addr} (hp : p.block < w.heap.size) (hs : ¬ S p.block) : w'.cell? p = w.cell? p := World.cell?_of_block (w := w) (h.block p.block hp hs)
theorem Chg.frozen (h : Chg S w w') {p : Addr} (hp : p.block < w.heap.size) (hs : ¬ S p.block) : w'.frozen? p = w.frozen? p := World.frozen?_of_block (w := w) (h.block p.block hp hs)
theorem Chg.new (h : Chg (fun k => w.heap.size ≤ k) w w') : Chg (fun _ => False) w w' := h.mono fun k hk hs => by omega
theorem Chg.below (h : Chg (fun _ => False) w w') : Below w.heap.size w w' := ⟨h.os, h.tape, h.output, h.size, fun k hk => h.block k hk id⟩
theorem Chg.of_below (h : Below w.heap.size w w') : Chg S w w' := ⟨h.os, h.tape, h.output, h.size, fun k hk _ => h.block k hk⟩

theorem Blk.lt (h : Blk w g t cs) : g < w.heap.size := by
  rcases Nat.lt_or_ge g w.heap.size with hlt | hge
  · exact hlt
  · unfold Blk at h; rw [Array.getElem?_eq_none hge] at h; cases h
theorem Blk.cell (h : Blk w g t cs) (i : Nat) : w.cell? ⟨g, i, none⟩ = cs[i]? := cell_of_row w g i cs t (0, 0) h
theorem Blk.frozen (h : Blk w g t cs) (i : Nat) : w.frozen? ⟨g, i, none⟩ = false := by
  unfold Blk at h
  simp [World.frozen?, h]
theorem Blk.new (w : World) (t : TypeId) (cs : Array Value) : Blk (w.alloc (.cells cs t)) w.heap.size t cs := heap_alloc_new w _
theorem Blk.drew (h : Blk w g t cs) : Blk w.drew g t cs := h
theorem Blk.drewN (h : Blk w g t cs) (n : Nat) : Blk (w.drewN n) g t cs := h
theorem Blk.alloc (h : Blk w g t cs) (o : Obj) : Blk (w.alloc o) g t cs := (Below.heap_alloc w o g h.lt).trans h
theorem Blk.set_ (h : Blk w g t cs) (i : Nat) (u : Value) : Blk (w.setCell ⟨g, i, none⟩ u) g t (cs.setIfInBounds i u) := by
  unfold Blk at h ⊢
  simp [World.setCell, Array.getElem?_modify, h]
theorem Blk.far (h : Blk w g t cs) {p : Addr} (hp : g ≠ p.block) (u : Value) : Blk (w.setCell p u) g t cs := (Below.heap_setCell w p u g hp).trans h
theorem Blk.chg (h : Blk w g t cs) (hb : Chg S w w') (hg : ¬ S g) : Blk w' g t cs := (hb.block g h.lt hg).trans h
theorem Blk.below {B : Nat} (h : Blk w g t cs) (hb : Below B w w') (hg : g < B) : Blk w' g t cs := (hb.block g hg).trans h
theorem Blk.ne_ {g' : Nat} {t' : TypeId} {cs' : Array Value} (h : Blk w g t cs) (h' : Blk w g' t' cs') (hne : t ≠ t') : g ≠ g' := by
  rintro rfl
  unfold Blk at h h'
  rw [h] at h'
  injection h' with h'
  injection h' with _ ht
  exact hne ht
theorem Blk.same {t' : TypeId} {cs' : Array Value} (h : Blk w g t cs) (h' : Blk w g t' cs') : cs = cs' := by
  unfold Blk at h h'
  rw [h] at h'
  injection h' with h'
  injection h' with h' _
end

/-- A callee that changes nothing, met inside a quiet region. -/
theorem quiet_same {P : Program} {f : FuncId} {args : Array Value} {w : World} {n : Nat} {v : Value}
    (h : Calls P f args (w.drewN n) fun e w' => e = .returned v ∧ w.drewN n = w') : Calls P f args (w.drewN n) fun e w'' => e = .returned v ∧ ∃ m, w'' = w.drewN m :=
  h.mono fun _ _ ⟨he, hm⟩ => ⟨he, n, hm.symm⟩
end Go.Proofs.YtahahginmgidjaaGreatDoor
namespace Go.Proofs.YtahahginmgidjaaGreatDoor
open Go.RowKit
set_option linter.unusedVariables false
set_option linter.unusedSimpArgs false

structure FileV where
  data : ByteArray
  lasts : Nat
/-- Names with the numbers of their files; a step: changes of names (none: the name is gone). -/
abbrev Names := List (ByteArray × Nat)
abbrev StepV := List (ByteArray × Option Nat)
structure DiskV where
  room : Int
  files : List FileV
  names : Names
  lasts : Names
  queue : List StepV
  cutL : Int
  cutN : Int
  cutB : List Int
  fullL : Int
  off : Bool
def slt (a b : ByteArray) : Bool := decide (a.data.toList < b.data.toList)
def dropN (n : ByteArray) (l : Names) : Names := l.filter fun p => decide (p.1 ≠ n)
def insN (n : ByteArray) (i : Nat) : Names → Names
  | [] => [(n, i)]
  | p :: r => if slt n p.1 then (n, i) :: p :: r else p :: insN n i r
def doOne (l : Names) (c : ByteArray × Option Nat) : Names := match c.2 with | none => dropN c.1 l | some i => insN c.1 i (dropN c.1 l)
def doStep (l : Names) (s : StepV) : Names := s.foldl doOne l
def doAll (l : Names) (q : List StepV) : Names := q.foldl doStep l
def look : Names → ByteArray → Option Nat
  | [], _ => none
  | p :: r, n => if p.1 = n then some p.2 else look r n
def restI (n b : Int) : Int := if n < 0 then (-(n + 1)).tmod b else n.tmod b
def fileFix (bytes : List Int) (i : Nat) (f : FileV) : FileV :=
  let keep : Int := if bytes = [] then 0 else restI (bytes.getD (i % bytes.length) 0) ((f.data.size : Int) - f.lasts + 1)
  ⟨f.data.extract 0 (f.lasts + keep.toNat), f.lasts + keep.toNat⟩
def failD (D : DiskV) (names : Int) (bytes : List Int) : DiskV :=
  { D with lasts := doAll D.lasts (D.queue.take (restI names (D.queue.length + 1)).toNat), names := doAll D.lasts (D.queue.take (restI names (D.queue.length + 1)).toNat), queue := [],
           files := D.files.mapIdx (fileFix bytes), cutL := 0, cutN := 0, cutB := [], fullL := 0 }
def sizeOfN (files : List FileV) (p : ByteArray × Nat) : Int := match files[p.2]? with | some f => f.data.size | none => 0
def usedD (D : DiskV) : Int := (D.names.map (sizeOfN D.files)).sum
def spring (l : Int) : Bool × Int := if l = 0 then (false, 0) else (l - 1 == 0, l - 1)
def trapped (D : DiskV) : DiskV := { D with cutL := (spring D.cutL).2, fullL := (spring D.fullL).2 }
def changeD (D : DiskV) (atCut : Bool) (act : DiskV → DiskV) : Int × DiskV :=
  if (spring D.cutL).1 then (13, { failD (if atCut then act (trapped D) else trapped D) (if atCut then act (trapped D) else trapped D).cutN (if atCut then act (trapped D) else trapped D).cutB with off := true })
  else if (spring D.fullL).1 then (12, trapped D) else (0, act (trapped D))
def rename1 (s : StepV) (D : DiskV) : DiskV := { D with names := doStep D.names s, queue := D.queue ++ [s] }
def goodN (n : ByteArray) : Bool := decide (n.size ≠ 0) && decide (n.size ≤ 64)
def createA (n : ByteArray) (D : DiskV) : DiskV := rename1 [(n, some D.files.length)] { D with files := D.files ++ [⟨⟨#[]⟩, 0⟩] }
def setF (D : DiskV) (i : Nat) (f : FileV → FileV) : DiskV := { D with files := D.files.modify i f }
def appendA (i : Nat) (s : ByteArray) (D : DiskV) : DiskV := setF D i fun f => ⟨f.data ++ s, f.lasts⟩
def syncA (i : Nat) (D : DiskV) : DiskV := setF D i fun f => ⟨f.data, f.data.size⟩
def syncDirA (D : DiskV) : DiskV := { D with lasts := D.names, queue := [] }
def renameA (a b : ByteArray) (i : Nat) (D : DiskV) : DiskV := if a = b then D else rename1 [(b, some i), (a, none)] D
def removeA (n : ByteArray) (D : DiskV) : DiskV := rename1 [(n, none)] D

/-- The names point to files that are there; no name stands twice. -/
structure NamesOk (l : Names) (n : Nat) : Prop where
  lt : ∀ p ∈ l, p.2 < n
  one : l.Pairwise fun a b => a.1 ≠ b.1
  sz : ∀ p ∈ l, p.1.size ≤ 64
def StepOk (s : StepV) (n : Nat) : Prop := ∀ c ∈ s, c.1.size ≤ 64 ∧ ∀ i, c.2 = some i → i < n
structure DiskOk (D : DiskV) : Prop where
  names : NamesOk D.names D.files.length
  lasts : NamesOk D.lasts D.files.length
  queue : ∀ s ∈ D.queue, StepOk s D.files.length
  file : ∀ f ∈ D.files, f.lasts ≤ f.data.size ∧ f.data.size ≤ 1048576
  room : 0 ≤ D.room ∧ D.room ≤ 9223372036854775807
  cutL : 0 ≤ D.cutL ∧ D.cutL ≤ 9223372036854775807
  fullL : 0 ≤ D.fullL ∧ D.fullL ≤ 9223372036854775807
  cutN : -9223372036854775808 ≤ D.cutN ∧ D.cutN ≤ 9223372036854775807
  cutB : ∀ n ∈ D.cutB, -9223372036854775808 ≤ n ∧ n ≤ 9223372036854775807

theorem NamesOk.nil (n : Nat) : NamesOk [] n := ⟨by simp, List.Pairwise.nil, by simp⟩
theorem NamesOk.mono {l : Names} {n m : Nat} (h : NamesOk l n) (hn : n ≤ m) : NamesOk l m := ⟨fun p hp => Nat.lt_of_lt_of_le (h.lt p hp) hn, h.one, h.sz⟩
theorem mem_dropN {n : ByteArray} {l : Names} {p : ByteArray × Nat} : p ∈ dropN n l ↔ p ∈ l ∧ p.1 ≠ n := by simp [dropN]
theorem mem_insN {n : ByteArray} {i : Nat} {p : ByteArray × Nat} : ∀ {l : Names}, p ∈ insN n i l ↔ p = (n, i) ∨ p ∈ l
  | [] => by simp [insN]
  | q :: r => by
    unfold insN
    split
    · simp
    · rw [List.mem_cons, mem_insN, List.mem_cons]
      constructor
      · rintro (h | h | h) <;> simp [h]
      · rintro (h | h | h) <;> simp [h]
theorem NamesOk.drop {l : Names} {k : Nat} (h : NamesOk l k) (n : ByteArray) : NamesOk (dropN n l) k :=
  ⟨fun p hp => h.lt p (mem_dropN.1 hp).1, h.one.sublist List.filter_sublist, fun p hp => h.sz p (mem_dropN.1 hp).1⟩
theorem ins_one {n : ByteArray} {i : Nat} : ∀ {l : Names}, (l.Pairwise fun a b => a.1 ≠ b.1) → (∀ p ∈ l, p.1 ≠ n) → (insN n i l).Pairwise fun a b => a.1 ≠ b.1
  | [], _, _ => by simp [insN]
  | q :: r, h, hn => by
    unfold insN
    rw [List.pairwise_cons] at h
    split
    · rw [List.pairwise_cons, List.pairwise_cons]
      exact ⟨fun p hp => (hn p hp).symm, h⟩
    · rw [List.pairwise_cons]
      refine ⟨fun p hp => ?_, ins_one h.2 fun p hp => hn p (by simp [hp])⟩
      rcases mem_insN.1 hp with rfl | hp
      · exact hn q (by simp)
      · exact h.1 p hp
theorem NamesOk.ins {l : Names} {k : Nat} (h : NamesOk l k) (n : ByteArray) (i : Nat) (hi : i < k) (hn : n.size ≤ 64) : NamesOk (insN n i (dropN n l)) k :=
  ⟨fun p hp => by
    rcases mem_insN.1 hp with rfl | hp
    · exact hi
    · exact (h.drop n).lt p hp, ins_one (h.drop n).one fun p hp => (mem_dropN.1 hp).2, fun p hp => by
    rcases mem_insN.1 hp with rfl | hp
    · exact hn
    · exact (h.drop n).sz p hp⟩
theorem NamesOk.doOne {l : Names} {k : Nat} (h : NamesOk l k) (c : ByteArray × Option Nat) (hc : c.1.size ≤ 64 ∧ ∀ i, c.2 = some i → i < k) : NamesOk (doOne l c) k := by
  unfold Go.Proofs.YtahahginmgidjaaGreatDoor.doOne
  cases hc2 : c.2 with
  | none => exact h.drop _
  | some i => exact h.ins _ _ (hc.2 i hc2) hc.1
theorem NamesOk.doStep {k : Nat} : ∀ {s : StepV} {l : Names}, NamesOk l k → StepOk s k → NamesOk (doStep l s) k
  | [], l, h, _ => h
  | c :: s, l, h, hs => NamesOk.doStep (s := s) (h.doOne c (hs c (by simp))) fun d hd => hs d (by simp [hd])
theorem NamesOk.doAll {k : Nat} : ∀ {q : List StepV} {l : Names}, NamesOk l k → (∀ s ∈ q, StepOk s k) → NamesOk (doAll l q) k
  | [], l, h, _ => h
  | s :: q, l, h, hs => NamesOk.doAll (q := q) (h.doStep (hs s (by simp))) fun d hd => hs d (by simp [hd])
theorem look_some {l : Names} {n : ByteArray} {i : Nat} (h : look l n = some i) : (n, i) ∈ l := by
  induction l with
  | nil => simp [look] at h
  | cons p r ih =>
    unfold look at h
    split at h
    · rename_i he; cases h; simp [← he]
    · simp [ih h]
theorem look_none {l : Names} {n : ByteArray} (h : look l n = none) : ∀ p ∈ l, p.1 ≠ n := by
  induction l with
  | nil => simp
  | cons p r ih =>
    unfold look at h
    split at h
    · cases h
    · rename_i he
      intro q hq
      rcases List.mem_cons.1 hq with rfl | hq
      · exact he
      · exact ih h q hq
theorem look_cons (p : ByteArray × Nat) (r : Names) (n : ByteArray) : look (p :: r) n = if p.1 = n then some p.2 else look r n := rfl
theorem dropN_len {l : Names} {n : ByteArray} (h : l.Pairwise fun a b => a.1 ≠ b.1) : (dropN n l).length = if (look l n).isSome then l.length - 1 else l.length := by
  induction l with
  | nil => rfl
  | cons p r ih =>
    rw [List.pairwise_cons] at h
    have ih' := ih h.2
    clear ih
    rw [look_cons]
    unfold dropN at *
    by_cases hp : p.1 = n
    · have hr : (r.filter fun p => decide (p.1 ≠ n)) = r := by
        rw [List.filter_eq_self]
        intro q hq
        have := h.1 q hq
        rw [hp] at this
        simpa using this.symm
      simp only [List.filter_cons, hp, ne_eq, not_true_eq_false, decide_false, Bool.false_eq_true, ↓reduceIte, Option.isSome_some, List.length_cons]
      rw [hr]; rfl
    · simp only [List.filter_cons, hp, ne_eq, not_false_eq_true, decide_true, ↓reduceIte, List.length_cons]
      rw [ih']
      cases hl : look r n with
      | none => simp
      | some i =>
        have := List.length_pos_of_mem (look_some hl)
        simp; omega
theorem insN_len (n : ByteArray) (i : Nat) : ∀ l : Names, (insN n i l).length = l.length + 1
  | [] => rfl
  | p :: r => by
    unfold insN
    split
    · simp
    · simp [insN_len n i r]
theorem restI_bd {n b : Int} (hb : 0 < b) : 0 ≤ restI n b ∧ restI n b < b := by
  unfold restI
  split
  · exact ⟨Int.tmod_nonneg _ (by omega), Int.tmod_lt_of_pos _ hb⟩
  · exact ⟨Int.tmod_nonneg _ (by omega), Int.tmod_lt_of_pos _ hb⟩
/-! ### What a call leaves is good -/
theorem StepOk.mono {s : StepV} {n m : Nat} (h : StepOk s n) (hn : n ≤ m) : StepOk s m := fun c hc => ⟨(h c hc).1, fun i hi => Nat.lt_of_lt_of_le ((h c hc).2 i hi) hn⟩
theorem spring_le {l : Int} (h : 0 ≤ l ∧ l ≤ 9223372036854775807) : 0 ≤ (spring l).2 ∧ (spring l).2 ≤ 9223372036854775807 := by
  unfold spring
  split
  · simp
  · simp only; omega
theorem trapped_ok {D : DiskV} (h : DiskOk D) : DiskOk (trapped D) := { h with cutL := spring_le h.cutL, fullL := spring_le h.fullL }
theorem rename1_ok {D : DiskV} {s : StepV} (h : DiskOk D) (hs : StepOk s D.files.length) : DiskOk (rename1 s D) :=
  ⟨h.names.doStep hs, h.lasts, fun t ht => by
      rcases List.mem_append.1 ht with ht | ht
      · exact h.queue t ht
      · simp at ht; subst ht; exact hs, h.file, h.room, h.cutL, h.fullL, h.cutN, h.cutB⟩
theorem fileFix_ok {bytes : List Int} {i : Nat} {f : FileV} (h : f.lasts ≤ f.data.size ∧ f.data.size ≤ 1048576) : (fileFix bytes i f).lasts ≤ (fileFix bytes i f).data.size ∧ (fileFix bytes i f).data.size ≤ 1048576 := by
  unfold fileFix
  have hk : f.lasts + (if bytes = [] then (0 : Int) else restI (bytes.getD (i % bytes.length) 0) ((f.data.size : Int) - f.lasts + 1)).toNat ≤ f.data.size := by
    split
    · simpa using h.1
    · have := restI_bd (n := bytes.getD (i % bytes.length) 0) (b := (f.data.size : Int) - f.lasts + 1) (by omega)
      omega
  simp only [ByteArray.size_extract]
  omega
theorem fail_ok {D : DiskV} (h : DiskOk D) (names : Int) (bytes : List Int) : DiskOk (failD D names bytes) := by
  have hl : NamesOk (doAll D.lasts (D.queue.take (restI names (D.queue.length + 1)).toNat)) D.files.length := h.lasts.doAll fun s hs => h.queue s (List.mem_of_mem_take hs)
  refine ⟨by simpa [failD] using hl, by simpa [failD] using hl, by simp [failD], fun f hf => ?_, h.room, by simp [failD], by simp [failD], by simp [failD], by simp [failD]⟩
  simp only [failD, List.mem_mapIdx] at hf
  obtain ⟨i, hi, rfl⟩ := hf
  exact fileFix_ok (h.file _ (List.getElem_mem hi))
theorem off_ok {D : DiskV} (h : DiskOk D) (b : Bool) : DiskOk { D with off := b } := { h with }
theorem create_ok {D : DiskV} (h : DiskOk D) {n : ByteArray} (hn : n.size ≤ 64) : DiskOk (createA n D) := by
  refine rename1_ok (D := { D with files := D.files ++ [⟨⟨#[]⟩, 0⟩] }) ⟨h.names.mono (by simp), h.lasts.mono (by simp), fun s hs => (h.queue s hs).mono (by simp), fun f hf => ?_, h.room, h.cutL, h.fullL, h.cutN, h.cutB⟩ ?_
  · rcases List.mem_append.1 hf with hf | hf
    · exact h.file f hf
    · simp at hf; subst hf; exact ⟨Nat.le_refl _, by simp [ByteArray.size]⟩
  · intro c hc
    simp at hc; subst hc
    exact ⟨hn, fun i hi => by cases hi; simp⟩
theorem setF_ok {D : DiskV} (h : DiskOk D) {i : Nat} {g : FileV → FileV} (hg : ∀ f, D.files[i]? = some f → (g f).lasts ≤ (g f).data.size ∧ (g f).data.size ≤ 1048576) : DiskOk (setF D i g) := by
  have hl : (D.files.modify i g).length = D.files.length := by simp
  refine ⟨by simpa [setF] using h.names, by simpa [setF] using h.lasts, by simpa [setF] using h.queue, fun f hf => ?_, h.room, h.cutL, h.fullL, h.cutN, h.cutB⟩
  simp only [setF] at hf
  obtain ⟨j, hj, rfl⟩ := List.mem_iff_getElem.1 hf
  rw [List.getElem_modify]
  split
  · rename_i e
    subst e
    exact hg _ (List.getElem?_eq_getElem (by rw [← hl]; exact hj))
  · exact h.file _ (List.getElem_mem _)
theorem syncDir_ok {D : DiskV} (h : DiskOk D) : DiskOk (syncDirA D) := { h with lasts := h.names, queue := by simp [syncDirA] }
theorem rename_ok {D : DiskV} (h : DiskOk D) {a b : ByteArray} {i : Nat} (hi : i < D.files.length) (ha : a.size ≤ 64) (hb : b.size ≤ 64) : DiskOk (renameA a b i D) := by
  unfold renameA
  split
  · exact h
  · refine rename1_ok h fun c hc => ?_
    simp at hc
    rcases hc with rfl | rfl
    · exact ⟨hb, fun j hj => by cases hj; exact hi⟩
    · exact ⟨ha, fun j hj => by cases hj⟩
theorem remove_ok {D : DiskV} (h : DiskOk D) {n : ByteArray} (hn : n.size ≤ 64) : DiskOk (removeA n D) :=
  rename1_ok h fun c hc => by
    simp at hc; subst hc
    exact ⟨hn, fun j hj => by cases hj⟩
end Go.Proofs.YtahahginmgidjaaGreatDoor
namespace Go.Proofs.YtahahginmgidjaaGreatDoor
open Go.RowKit
set_option linter.unusedVariables false
set_option linter.unusedSimpArgs false

/-- The slice value v has n elements of type e, size cells each: the cells xs; they lie at the head of a block that nothing freezes. -/
def Own (w : World) (e : TypeId) (size : Nat) (v : Value) (n : Nat) (xs : List Value) : Prop :=
  xs.length = n * size ∧ ((v = .slice none 0 0 ∧ n = 0) ∨
    ∃ g cap cur, v = .slice (some ⟨g, 0, none⟩) n cap ∧ w.heap[g]? = some (.cells cur e (0, 0)) ∧ n ≤ cap ∧ cap ≤ maxLen ∧ cap * size ≤ cur.size ∧ cur.toList.take (n * size) = xs)

section
variable {w w' : World} {e : TypeId} {size : Nat} {v : Value} {n : Nat} {xs : List Value} {S : Nat → Prop}
theorem Own.nil (w : World) (e : TypeId) (size : Nat) : Own w e size (.slice none 0 0) 0 [] := ⟨by simp, .inl ⟨rfl, rfl⟩⟩
theorem Own.of_row {base : Nat} (h : w.ownsRow base e size v n xs) : Own w e size v n xs := by
  refine ⟨h.1, ?_⟩
  rcases h.2 with hn | ⟨g, cap, cur, h1, h2, h3, h4, h5, h6, h7⟩
  · exact .inl hn
  · exact .inr ⟨g, cap, cur, h1, h3, h4, h5, by omega, h7⟩
theorem Own.chg (h : Own w e size v n xs) (hc : Chg S w w') (hS : ∀ k, v.ownBlock = some k → ¬ S k) : Own w' e size v n xs := by
  refine ⟨h.1, ?_⟩
  rcases h.2 with hn | ⟨g, cap, cur, rfl, hg, rest⟩
  · exact .inl hn
  · exact .inr ⟨g, cap, cur, rfl, (hc.block g (show Blk w g _ _ from hg).lt (hS g rfl)).trans hg, rest⟩
theorem Own.same (h : Own w e size v n xs) (hc : Chg (fun _ => False) w w') : Own w' e size v n xs := h.chg hc (by simp)
theorem Own.typed (h : Own w e size v n xs) {k : Nat} (hk : v.ownBlock = some k) : ∃ cs, Blk w k e cs := by
  rcases h.2 with ⟨rfl, _⟩ | ⟨g, cap, cur, rfl, hg, rest⟩
  · simp [Value.ownBlock] at hk
  · simp [Value.ownBlock] at hk; subst hk; exact ⟨_, hg⟩
theorem Own.lt (h : Own w e size v n xs) {k : Nat} (hk : v.ownBlock = some k) : k < w.heap.size := by
  obtain ⟨cs, hb⟩ := h.typed hk
  exact hb.lt
/-- What it looks like, and how its cells are read. -/
theorem Own.form (h : Own w e size v n xs) : ∃ a cap, v = .slice a n cap ∧ n ≤ cap ∧ n ≤ 9223372036854775807 ∧ (a = none → n = 0 ∧ cap = 0) ∧ ∀ b, a = some b → b.off = 0 ∧ b.spot = none ∧ (Value.slice a n cap).ownBlock = some b.block := by
  rcases h.2 with ⟨rfl, hn⟩ | ⟨g, cap, cur, rfl, hg, hn, hm, hcs, ht⟩
  · subst hn
    exact ⟨none, 0, rfl, by omega, by omega, fun _ => ⟨rfl, rfl⟩, by simp⟩
  · unfold maxLen at hm
    exact ⟨_, cap, rfl, hn, by omega, by simp, by rintro b hb; cases hb; exact ⟨rfl, rfl, rfl⟩⟩
theorem Own.reads (h : Own w e size v n xs) : ∃ a cap, v = .slice a n cap ∧ n ≤ cap ∧ n ≤ 9223372036854775807 ∧ (0 < n → ∃ b, a = some ⟨b, 0, none⟩ ∧ b < w.heap.size ∧ v.ownBlock = some b ∧ ∀ i x, xs[i]? = some x → w.cell? ⟨b, i, none⟩ = some x) := by
  rcases h.2 with ⟨rfl, hn⟩ | ⟨g, cap, cur, rfl, hg, hn, hm, hcs, ht⟩
  · exact ⟨none, 0, by rw [hn], by omega, by omega, fun h => by omega⟩
  · unfold maxLen at hm
    refine ⟨_, cap, rfl, hn, by omega, fun _ => ⟨g, rfl, (show Blk w g _ _ from hg).lt, rfl, fun i x hx => ?_⟩⟩
    rw [cell_of_row w g i cur e (0, 0) hg, ← Array.getElem?_toList]
    have hi : i < xs.length := (List.getElem?_eq_some_iff.1 hx).1
    rw [← ht, List.getElem?_take] at hx
    rw [h.1] at hi
    rw [if_pos hi] at hx
    exact hx
theorem Own.frozen (h : Own w e size v n xs) {g : Nat} (hg : v.ownBlock = some g) (i : Nat) : w.frozen? ⟨g, i, none⟩ = false := by
  obtain ⟨cs, hb⟩ := h.typed hg
  exact hb.frozen i
/-- The first k elements, the rest cut away: s[:k:k]. -/
theorem Own.cut (h : Own w e size v n xs) {k : Nat} (hk : k ≤ n) : ∃ a cap, v = .slice a n cap ∧ Own w e size (.slice a k k) k (xs.take (k * size)) := by
  have hle : k * size ≤ n * size := Nat.mul_le_mul_right _ hk
  rcases h.2 with ⟨rfl, hn⟩ | ⟨g, cap, cur, rfl, hg, hn, hm, hcs, ht⟩
  · obtain rfl : k = 0 := by omega
    subst hn
    exact ⟨none, 0, rfl, by simp [Own]⟩
  · refine ⟨_, cap, rfl, ?_, .inr ⟨g, k, cur, rfl, hg, Nat.le_refl _, by omega, ?_, ?_⟩⟩
    · rw [List.length_take, h.1]; omega
    · have : k * size ≤ cap * size := Nat.mul_le_mul_right _ (by omega)
      omega
    · rw [← ht, List.take_take, Nat.min_eq_left hle]
end

section
variable {P : Program} {w : World}
theorem setCells_chg (g : Nat) : ∀ (news : List Value) (off : Nat) (w : World), Chg (fun k => k = g) w (w.setCells g off news) ∧ (w.setCells g off news).heap.size = w.heap.size
  | [], off, w => ⟨Chg.refl _ _, rfl⟩
  | u :: r, off, w => by
    obtain ⟨h1, h2⟩ := setCells_chg g r (off + 1) (w.setCell ⟨g, off, none⟩ u)
    refine ⟨Chg.then (Chg.setCell (S := fun k => k = g) (Chg.refl _ w) (p := ⟨g, off, none⟩) (fun _ => rfl) u) h1, ?_⟩
    show ((w.setCell ⟨g, off, none⟩ u).setCells g (off + 1) r).heap.size = _
    rw [h2]
    simp [World.setCell]
theorem take_set_succ (l : List Value) (off : Nat) (u : Value) (h : off < l.length) : (l.set off u).take (off + 1) = l.take off ++ [u] := by
  rw [List.take_add_one, List.getElem?_set_self (by simpa using h), List.take_set]
  rw [List.set_eq_of_length_le (by simp; omega)]
  rfl
theorem setCells_blk (g : Nat) (t : TypeId) : ∀ (news : List Value) (w : World) (cs : Array Value) (off : Nat), Blk w g t cs → off + news.length ≤ cs.size → ∃ cs', Blk (w.setCells g off news) g t cs' ∧ cs'.size = cs.size ∧ cs'.toList.take (off + news.length) = cs.toList.take off ++ news
  | [], w, cs, off, hb, hle => ⟨cs, hb, rfl, by simp⟩
  | u :: r, w, cs, off, hb, hle => by
    simp only [List.length_cons] at hle
    obtain ⟨cs', h1, h2, h3⟩ := setCells_blk g t r (w.setCell ⟨g, off, none⟩ u) (cs.setIfInBounds off u) (off + 1) (hb.set_ off u) (by simp; omega)
    refine ⟨cs', h1, by simpa using h2, ?_⟩
    rw [List.length_cons, show off + (r.length + 1) = off + 1 + r.length from by omega, h3, Array.toList_setIfInBounds, take_set_succ _ _ _ (by simp; omega)]
    simp

/-- append, of whatever yields m elements. -/
theorem run_own_append (w : World) (t tx ty e : TypeId) (i : TypeInfo) (z : Value) (size bytes : Nat) (ht : P.underlying t = some (.slice e)) (hi : P.info? e = some i) (hz : i.zero = some z)
    (hsize : i.size = size) (hby : i.bytes = bytes) (hzs : z.cells.size = size)
    (v : Value) (n : Nat) (xs : List Value) (hown : Own w e size v n xs) (x : Value) (m : Nat) (news : List Value) (hs : Src P size tx x m news w)
    (h63 : n + m ≤ maxLen) (hbytes : (n + m) * bytes ≤ 140737488355328) :
    ∃ v' w', (Builtin.append_ #[t, tx] ty #[v, x]).run P w = .ok v' w' ∧ Own w' e size v' (n + m) (xs ++ news) ∧ w.grownBy w' v.ownBlock ∧ (v'.ownBlock = v.ownBlock ∨ v'.ownBlock = some w.heap.size) := by
  subst hsize
  subst hby
  have hsmall : n + m ≤ 9223372036854775807 := by simp only [maxLen] at h63; omega
  have hl := hs.newsLen
  have hlen : (xs ++ news).length = (n + m) * i.size := by rw [List.length_append, hown.1, hl, Nat.add_mul]
  have grown : ∀ (old : Nat), old < n + m → ∀ (row : Option Nat),
      Own (w.drew.alloc (.cells ((xs ++ news).toArray ++ Builtin.zeroCells z.cells (grownCap w (n + m) old e - (n + m))) e)) e i.size
        (.slice (some ⟨w.heap.size, 0, none⟩) (n + m) (grownCap w (n + m) old e)) (n + m) (xs ++ news) ∧
      w.grownBy (w.drew.alloc (.cells ((xs ++ news).toArray ++ Builtin.zeroCells z.cells (grownCap w (n + m) old e - (n + m))) e)) row := by
    intro old ho row
    have hge := grownCap_ge w (n + m) old e
    have hcm : grownCap w (n + m) old e ≤ maxLen := grownCap_le_maxLen w (n + m) old e h63
    refine ⟨⟨hlen, .inr ⟨w.heap.size, _, _, rfl, heap_alloc_new w.drew _, hge, hcm, ?_, ?_⟩⟩, ⟨rfl, rfl, rfl, by simp, fun k hk _ => Below.heap_alloc w.drew _ k hk⟩⟩
    · simp only [Array.size_append, List.size_toArray, size_zeroCells, hzs, hlen, ← Nat.add_mul]
      exact Nat.mul_le_mul_right _ (by omega)
    · simp only [Array.toList_append]
      rw [← hlen]
      exact List.take_left
  rcases hown.2 with ⟨rfl, rfl⟩ | ⟨g, cap, cur, rfl, hg, hnc, hcm, hcs, htake⟩
  · have hx : xs = [] := List.eq_nil_of_length_eq_zero (by simpa using hown.1)
    subst hx
    by_cases hm : m = 0
    · subst hm
      have hn : news = [] := List.eq_nil_of_length_eq_zero (by simpa using hl)
      subst hn
      refine ⟨.slice none 0 0, w, ?_, Own.nil w e i.size, ⟨rfl, rfl, rfl, Nat.le_refl _, fun _ _ _ => rfl⟩, .inl rfl⟩
      rcases hs.kind with ⟨e', hk⟩ | hk <;> simp [Builtin.append_, run_underlying ht, run_underlying hk, sizeOf, typeInfo, hi, hs.len, hs.cells]
    · have hr := run_append_grow_src (P := P) w t tx ty e i z ht hi hz none 0 0 [] (run_firstCells_none w.drew i.size 0 0 0) x m news hs (by omega) (by omega) (growslice_fits (by omega) hbytes)
      have hgr := grown 0 (by omega) (Value.ownBlock (.slice none 0 0))
      exact ⟨_, _, hr, hgr.1, hgr.2, .inr rfl⟩
  · by_cases hroom : n + m ≤ cap
    · have hfit : n * i.size + news.length ≤ cur.size := by
        rw [hl, ← Nat.add_mul]
        exact Nat.le_trans (Nat.mul_le_mul_right _ hroom) hcs
      have hgb : Blk w g e cur := hg
      have hr := run_append_room_src (P := P) w t tx ty e i ht hi g 0 n cap x m news hs hroom (fun j hj => by rw [hgb.cell]; simp; omega) (fun j _ => hgb.frozen _)
      obtain ⟨cs', h1, h2, h3⟩ := setCells_blk g e news w cur (0 + n * i.size) hgb (by omega)
      obtain ⟨hc, hcz⟩ := setCells_chg g news (0 + n * i.size) w
      refine ⟨_, _, hr, ⟨hlen, .inr ⟨g, cap, cs', rfl, h1, hroom, hcm, by rw [h2]; exact hcs, ?_⟩⟩, ⟨hc.os, hc.tape, hc.output, by rw [hcz]; exact Nat.le_refl _, fun k hk hne => hc.block k hk (fun e => hne (by simp [Value.ownBlock, e]))⟩, .inl rfl⟩
      rw [Nat.add_mul, ← hl, show n * i.size + news.length = 0 + n * i.size + news.length from by omega, h3, Nat.zero_add, htake]
    · have holds : (Builtin.firstCells i.size n (.slice (some ⟨g, 0, none⟩) n cap)).run P w.drew = .ok xs.toArray w.drew := by
        refine run_firstCells_some w.drew i.size n ⟨g, 0, none⟩ n cap xs hown.1 (fun j u hu => ?_)
        obtain ⟨a', cap', he, _, _, hrd⟩ := hown.reads
        injection he with he1 he2 he3
        have hj : j < xs.length := (List.getElem?_eq_some_iff.1 hu).1
        have hn0 : 0 < n := by
          rcases Nat.eq_zero_or_pos n with h0 | h0
          · rw [hown.1, h0] at hj; simp at hj
          · exact h0
        obtain ⟨b, hb, _, _, hcell⟩ := hrd hn0
        rw [← he1] at hb
        cases hb
        have := hcell j u hu
        have e : (⟨g, 0, none⟩ : Addr).add j = ⟨g, j, none⟩ := by rw [Addr.add_lit]; simp
        rw [e]
        exact this
      have hr := run_append_grow_src (P := P) w t tx ty e i z ht hi hz (some ⟨g, 0, none⟩) n cap xs holds x m news hs (by omega) (by omega) (growslice_fits (by omega) hbytes)
      have hgr := grown cap (by omega) (Value.ownBlock (.slice (some ⟨g, 0, none⟩) n cap))
      exact ⟨_, _, hr, hgr.1, hgr.2, .inr rfl⟩

section
variable {o : Oper} {a : Act} {K : Act → World → Prop} {Q : Exit → Act → World → Prop}
theorem wp_own_append (w : World) (s x : Operand) (t tx : TypeId) (ho : o.op = .call { callee := .builtin .append, args := #[s, x], argTypes := #[t, tx] })
    (e : TypeId) (i : TypeInfo) (z : Value) (size bytes : Nat) (ht : P.underlying t = some (.slice e)) (hi : P.info? e = some i) (hz : i.zero = some z) (hsize : i.size = size) (hby : i.bytes = bytes) (hzs : z.cells.size = size)
    (v : Value) (n : Nat) (xs : List Value) (hs : a.eval s = v) (hown : Own w e size v n xs) (xv : Value) (m : Nat) (news : List Value) (hx : a.eval x = xv) (hsrc : Src P size tx xv m news w)
    (h63 : n + m ≤ maxLen) (hbytes : (n + m) * bytes ≤ 140737488355328)
    (h : ∀ v' w', Own w' e size v' (n + m) (xs ++ news) → w.grownBy w' v.ownBlock → (v'.ownBlock = v.ownBlock ∨ v'.ownBlock = some w.heap.size) → K (a.put o.dst v') w') : Oper.wp P o a w K Q := by
  obtain ⟨v', w', hr, h2, h3, h4⟩ := run_own_append (P := P) w t tx o.type e i z size bytes ht hi hz hsize hby hzs v n xs hown xv m news hsrc h63 hbytes
  unfold Oper.wp execOp
  simp only [ho, resolve, invoke, builtin, Sem.run_bind, Sem.run_pure, Result.andThen_ok, List.map_toArray, List.map_cons, List.map_nil, hs, hx, hr]
  exact h v' w' h2 h3 h4
theorem wpList_own_append (w : World) {ops : Array Oper} {rest : List Oper} (hgd : o.guard = none) (s x : Operand) (t tx : TypeId) (ho : o.op = .call { callee := .builtin .append, args := #[s, x], argTypes := #[t, tx] })
    (e : TypeId) (i : TypeInfo) (z : Value) (size bytes : Nat) (ht : P.underlying t = some (.slice e)) (hi : P.info? e = some i) (hz : i.zero = some z) (hsize : i.size = size) (hby : i.bytes = bytes) (hzs : z.cells.size = size)
    (v : Value) (n : Nat) (xs : List Value) (hs : a.eval s = v) (hown : Own w e size v n xs) (xv : Value) (m : Nat) (news : List Value) (hx : a.eval x = xv) (hsrc : Src P size tx xv m news w)
    (h63 : n + m ≤ maxLen) (hbytes : (n + m) * bytes ≤ 140737488355328)
    (h : ∀ v' w', Own w' e size v' (n + m) (xs ++ news) → w.grownBy w' v.ownBlock → (v'.ownBlock = v.ownBlock ∨ v'.ownBlock = some w.heap.size) → wpList P ops Q rest (a.put o.dst v') w') : wpList P ops Q (o :: rest) a w :=
  wpList_plain hgd fun _ hK => wp_own_append w s x t tx ho e i z size bytes ht hi hz hsize hby hzs v n xs hs hown xv m news hx hsrc h63 hbytes fun v' w' h2 h3 h4 => hK _ _ (h v' w' h2 h3 h4)
/-- At a step of a region that draws its order. -/
theorem step_own_append (w : World) {ops : Array Oper} {E : Prop} (hgd : o.guard = none) (s x : Operand) (t tx : TypeId) (ho : o.op = .call { callee := .builtin .append, args := #[s, x], argTypes := #[t, tx] })
    (e : TypeId) (i : TypeInfo) (z : Value) (size bytes : Nat) (ht : P.underlying t = some (.slice e)) (hi : P.info? e = some i) (hz : i.zero = some z) (hsize : i.size = size) (hby : i.bytes = bytes) (hzs : z.cells.size = size)
    (v : Value) (n : Nat) (xs : List Value) (hs : a.eval s = v) (hown : Own w e size v n xs) (xv : Value) (m : Nat) (news : List Value) (hx : a.eval x = xv) (hsrc : Src P size tx xv m news w)
    (h63 : n + m ≤ maxLen) (hbytes : (n + m) * bytes ≤ 140737488355328)
    (h : ∀ v' w', Own w' e size v' (n + m) (xs ++ news) → w.grownBy w' v.ownBlock → (v'.ownBlock = v.ownBlock ∨ v'.ownBlock = some w.heap.size) → K (a.put o.dst v') w') : if Region.wanted o (yielded ops a.tmps) = true then Oper.wp P o a w K Q else E := by
  have hw : Region.wanted o (yielded ops a.tmps) = true := by simp [Region.wanted, hgd]
  rw [if_pos hw]
  exact wp_own_append w s x t tx ho e i z size bytes ht hi hz hsize hby hzs v n xs hs hown xv m news hx hsrc h63 hbytes h
end
end
end Go.Proofs.YtahahginmgidjaaGreatDoor
