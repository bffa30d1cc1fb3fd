/-
  A map's iterator does not touch the tape itself. Plain lemmas.
  The disk: Used.
-/
import Derived.Test.YtjfbcjmnjlehaaaGreatDoorZMg00
import Derived.Laws.IdiomRangeMap
import Derived.Test.YtjfbcjmnjlehaaaGreatDoorZMg04
import Derived.Test.YtjfbcjmnjlehaaaGreatDoorZMg08
namespace Go.Proofs.YtjfbcjmnjlehaaaGreatDoor
open Go.RowKit
set_option linter.unusedVariables false
set_option linter.unusedSimpArgs false

/-- Nothing but asking, and laying whole objects. -/
def Mild {α : Type} : Sem α → Prop
  | .pure _ => True
  | .getObj _ k => ∀ o, Mild (k o)
  | .setObj _ _ k => Mild k
  | .choose _ k => ∀ n, Mild (k n)
  | .mark _ k => Mild k
  | .halt _ => True
  | _ => False
theorem mild_bind {α β : Type} (f : α → Sem β) : ∀ (m : Sem α), Mild m → (∀ a, Mild (f a)) → Mild (m.bind f) := by
  intro m
  induction m with
  | pure a => intro _ hf; exact hf a
  | getObj r k ih => intro h hf o; exact ih o (h o) hf
  | setObj r o k ih => intro h hf; exact ih h hf
  | choose q k ih => intro h hf n; exact ih n (h n) hf
  | mark q k ih => intro h hf; exact ih h hf
  | halt e => intro _ _; exact trivial
  | load m a k ih => intro h; cases h
  | store m a v k ih => intro h; cases h
  | new o k ih => intro h; cases h
  | shape r k ih => intro h; cases h
  | freeze a n k ih => intro h; cases h
  | frozen a k ih => intro h; cases h
  | sys c k ih => intro h; cases h
  | program k ih => intro h; cases h
theorem mild_bind' {α β : Type} {m : Sem α} {f : α → Sem β} (h : Mild m) (hf : ∀ a, Mild (f a)) : Mild (m >>= f) := mild_bind f m h hf
theorem mild_tape {α : Type} (P : Program) : ∀ (m : Sem α), Mild m → ∀ (w : World) (a : α) (w' : World), m.run P w = .ok a w' → w'.tape = w.tape := by
  intro m
  induction m with
  | pure a => intro _ w b w' h; simp only [Sem.run] at h; cases h; rfl
  | getObj r k ih =>
    intro hm w b w' h
    simp only [Sem.run] at h
    split at h
    · cases h
    · exact ih _ (hm _) _ _ _ h
    · cases h
  | setObj r o k ih =>
    intro hm w b w' h
    simp only [Sem.run] at h
    split at h
    · cases h
    · exact (ih hm _ _ _ h).trans rfl
    · cases h
  | choose q k ih =>
    intro hm w b w' h
    simp only [Sem.run] at h
    split at h
    · exact ih _ (hm _) _ _ _ h
    · exact (ih _ (hm _) _ _ _ h).trans rfl
  | mark q k ih => intro hm w b w' h; simp only [Sem.run] at h; exact ih hm _ _ _ h
  | halt e => intro _ w b w' h; simp only [Sem.run] at h; cases h
  | load m a k ih => intro h; cases h
  | store m a v k ih => intro h; cases h
  | new o k ih => intro h; cases h
  | shape r k ih => intro h; cases h
  | freeze a n k ih => intro h; cases h
  | frozen a k ih => intro h; cases h
  | sys c k ih => intro h; cases h
  | program k ih => intro h; cases h
theorem next_mild (v : Value) (s : Bool) (ty : TypeId) : Mild (Instr.next v s ty) := by
  unfold Instr.next
  simp only []
  split
  · refine mild_bind' (fun o => trivial) fun o => ?_
    split
    · split
      · exact mild_bind' trivial fun _ => trivial
      · exact trivial
    · exact trivial
    · refine mild_bind' (fun o => trivial) fun o => ?_
      split
      · split
        · exact mild_bind' trivial fun _ => by
            refine mild_bind' (fun n => trivial) fun n => ?_
            split
            · exact mild_bind' trivial fun _ => trivial
            · exact trivial
            · exact trivial
        · refine mild_bind' (fun n => trivial) fun n => ?_
          split
          · exact mild_bind' trivial fun _ => trivial
          · exact trivial
          · exact trivial
      · exact trivial
    · exact trivial
  · exact trivial
end Go.Proofs.YtjfbcjmnjlehaaaGreatDoor
namespace Go.Proofs.YtjfbcjmnjlehaaaGreatDoor
open Go.RowKit
set_option linter.unusedVariables false
set_option linter.unusedSimpArgs false

/-- How many bytes the file at a pointer has. -/
def szV (ids : List Nat) (files : List FileV) : Value → Int
  | .pointer (some a) => match files[ids.idxOf a.block]? with | some f => f.data.size | none => 0
  | _ => 0
theorem idxOf_get {ids : List Nat} (hn : ids.Pairwise fun a b => a ≠ b) {i : Nat} (hi : i < ids.length) : ids.idxOf (ids.getD i 0) = i := by
  rw [List.getD_eq_getElem?_getD, List.getElem?_eq_getElem hi]
  exact List.Nodup.idxOf_getElem hn i hi
theorem szV_fptr {ids : List Nat} {files : List FileV} (hn : ids.Pairwise fun a b => a ≠ b) (hl : ids.length = files.length) {i : Nat} (hi : i < files.length) : szV ids files (fptr ids i) = files[i].data.size := by
  unfold szV fptr
  simp only
  rw [idxOf_get hn (by omega), List.getElem?_eq_getElem hi]
theorem perm_map_sum {α : Type} (g : α → Int) {l m : List α} (h : l.Perm m) : (l.map g).sum = (m.map g).sum := by
  induction h with
  | nil => rfl
  | cons x _ ih => simp [ih]
  | swap x y l => simp; omega
  | trans _ _ h1 h2 => rw [h1, h2]
theorem used_sum {P : Program} {k : TypeId} {es : Array MapEntry} {clock : Nat} {f : Value → Option Value} {ids : List Nat} {D : DiskV} (hs : Says P k es clock f) (ht : NTells f ids D.names) (hok : NamesOk D.names D.files.length) (hn : ids.Pairwise fun a b => a ≠ b) (hl : ids.length = D.files.length) :
    (es.toList.map fun e => szV ids D.files e.val).sum = usedD D := by
  have hp : (es.toList.map fun e => (e.key, e.val)).Perm (D.names.map fun p => (Value.string p.1, fptr ids p.2)) := by
    rw [List.perm_ext_iff_of_nodup]
    · rintro ⟨k, v⟩
      simp only [List.mem_map, Prod.mk.injEq]
      constructor
      · rintro ⟨e, he, rfl, rfl⟩
        obtain ⟨p, hp, e1, e2⟩ := (ht _ _).1 ((hs.says e.key e.val).2 ⟨e, he, rfl, rfl⟩)
        exact ⟨p, hp, e1.symm, e2.symm⟩
      · rintro ⟨p, hp, rfl, rfl⟩
        obtain ⟨e, he, e1, e2⟩ := (hs.says _ _).1 ((ht (.string p.1) (fptr ids p.2)).2 ⟨p, hp, rfl, rfl⟩)
        exact ⟨e, he, e1, e2⟩
    · refine (List.pairwise_map).2 (hs.apart.imp fun {a b} h e => h ?_)
      exact (Prod.mk.inj e).1
    · refine (List.pairwise_map).2 (hok.one.imp fun {a b} h e => h ?_)
      have := (Prod.mk.inj e).1
      injection this
  have h1 := perm_map_sum (fun q : Value × Value => szV ids D.files q.2) hp
  rw [List.map_map, List.map_map] at h1
  unfold usedD
  refine Eq.trans ?_ (h1.trans ?_)
  · rfl
  · congr 1
    apply List.map_congr_left
    intro p hp
    have hi := hok.lt p hp
    show szV ids D.files (fptr ids p.2) = sizeOfN D.files p
    rw [szV_fptr hn hl hi]
    unfold sizeOfN
    rw [List.getElem?_eq_getElem hi]

set_option maxRecDepth 1000000 in
set_option maxHeartbeats 2000000 in
theorem disk_used (d : Nat) (ids : List Nat) (D : DiskV) (M : Nat → Prop) (w : World) (h : DiskAt w d ids D M) (hN : D.names.length ≤ 1000000) :
    Calls Tryz.prog 67 #[.pointer (some ⟨d, 0, none⟩)] w fun e w' => e = .returned (.int .i64 (usedD D)) ∧ Chg (fun _ => False) w w' := by
  obtain ⟨hok, y, h⟩ := h
  obtain ⟨n, f, ⟨es, clock, hb, hsz, hs⟩, ht, hn⟩ := h.names
  have hsum := used_sum hs ht hok.names h.files.idd h.files.idn
  have hgb : ∀ x ∈ es.toList, 0 ≤ szV ids D.files x.val ∧ szV ids D.files x.val ≤ 1048576 := fun x hx => by
    obtain ⟨p, hp, e1, e2⟩ := (ht _ _).1 ((hs.says x.key x.val).2 ⟨x, hx, rfl, rfl⟩)
    have hi := hok.names.lt p hp
    rw [e2, szV_fptr h.files.idd h.files.idn hi]
    have := (hok.file _ (List.getElem_mem hi)).2
    omega
  have hes : (es.toList.length : Int) ≤ 1000000 := by simp; omega
  have hle := fun seen => seenG_le (fun e => szV ids D.files e.val) 1048576 seen es.toList hgb (by decide)
  have hborn : (es.toList.map (·.born)).Nodup := List.pairwise_map.2 hs.ages
  have hrg := run_range_map (P := Tryz.prog) w 61 9 126 y.nm es clock Tryz.underlying61 hb
  have c2 := h.blk.cell 2
  simp at c2
  have hfile : ∀ e ∈ es.toList, ∃ id v vc sz, e.val = .pointer (some ⟨id, 0, none⟩) ∧ id < w.heap.size ∧ w.cell? ⟨id, 0, none⟩ = some (.slice v sz vc) ∧ szV ids D.files e.val = (sz : Int) ∧ (sz : Int) ≤ 1048576 := fun e he => by
    obtain ⟨p, hp, e1, e2⟩ := (ht _ _).1 ((hs.says e.key e.val).2 ⟨e, he, rfl, rfl⟩)
    have hi := hok.names.lt p hp
    obtain ⟨id, v, g1, g2, hb', ho⟩ := h.files.at_ hi
    obtain ⟨va, vc, hv, _, _, _⟩ := ho.reads
    refine ⟨id, va, vc, D.files[p.2].data.size, ?_, hb'.lt, ?_, ?_, ?_⟩
    · rw [e2]; unfold fptr; rw [List.getD_eq_getElem?_getD, g1]; rfl
    · have := hb'.cell 0
      rw [hv] at this
      simpa using this
    · rw [e2, szV_fptr h.files.idd h.files.idn hi]
    · have := (hok.file _ (List.getElem_mem hi)).2; omega
  have HB := Lib.hid hb
  have HS := Lib.hid hs
  have HLE := Lib.hid hle
  have HBORN := Lib.hid hborn
  have HFILE := Lib.hid hfile
  have HSUM := Lib.hid hsum
  have hmax : ∀ seen, 0 ≤ seenG (fun e => szV ids D.files e.val) seen es.toList ∧ seenG (fun e => szV ids D.files e.val) seen es.toList ≤ 1048576000000 := fun seen => by
    have := hle seen
    omega
  have HMAX := Lib.hid hmax
  clear hb hsz hs ht hn hok h hle hborn hfile hgb hsum hmax
  go_enter Tryz.func67, Tryz.ntmps67
  go_wp2_with fail
  go_loopw [3] (fun s w' => ∃ (w1 : World) (seen : Array Nat), w1.Alike w ∧ w1.tape = w.tape ∧ w' = w1.alloc (.mapIter (some y.nm) clock seen clock) ∧ s = .int .i64 (seenG (fun e => szV ids D.files e.val) seen es.toList)) (fun _ w' => (leftOf es (w'.iterSeen w.heap.size)).size)
  case atStart => exact ⟨w, #[], ⟨rfl, rfl, rfl⟩, rfl, rfl, by rw [seenG_none]⟩
  case round =>
    obtain ⟨w1, seen, hal, htp, rfl, rfl⟩ := hrel
    have hsz : w1.heap.size = w.heap.size := by rw [hal.1]
    have hb1 : w1.heap[y.nm]? = some (.map es clock) := by rw [hal.1]; exact HB.out
    have law := run_next_map (P := Tryz.prog) w1 0 y.nm clock clock seen es clock hb1 HS.out.born (Nat.le_refl _)
    rw [hsz] at law
    rcases law with ⟨h0, hrun⟩ | ⟨e, he, w2, hal2, hrun⟩
    · have hnx : ∀ ty, (Instr.next (.pointer (some ⟨w.heap.size, 0, none⟩)) false ty).run Tryz.prog (w1.alloc (.mapIter (some y.nm) clock seen clock)) = _ := fun _ => hrun
      have hall := seenG_full (fun e => szV ids D.files e.val) seen es.toList (all_seen es seen h0)
      rw [HSUM.out] at hall
      have HALL := Lib.hid hall
      have hcw : Chg (fun _ => False) w w1 := ⟨hal.2.1, htp, hal.2.2, by rw [hsz]; exact Nat.le_refl _, fun k _ _ => by rw [hal.1]⟩
      have HCW := Lib.hid (hcw.alloc (.mapIter (some y.nm) clock seen clock))
      clear hal hsz hb1 h0 hrun hall htp hcw
      go_wp2_with fail
      go_ret
      exact ⟨by rw [HALL.out]; rfl, HCW.out⟩
    · obtain ⟨id, va, vc, sz, hval, hidl, hcell, hg, hszb⟩ := HFILE.out e (mem_left he).1
      rw [hval] at hrun
      have htp2 : w2.tape = w.tape := (mild_tape Tryz.prog _ (next_mild _ _ _) _ _ _ hrun).trans htp
      have hnx : ∀ ty, (Instr.next (.pointer (some ⟨w.heap.size, 0, none⟩)) false ty).run Tryz.prog (w1.alloc (.mapIter (some y.nm) clock seen clock)) = _ := fun ty => hrun
      have hsz2 : w2.heap.size = w.heap.size := by rw [hal2.1, hal.1]
      have hb2 : w2.heap[y.nm]? = some (.map es clock) := by rw [hal2.1]; exact hb1
      have hen := run_entry_map (P := Tryz.prog) w2 y.nm clock seen es clock e hb2 (mem_left he).1 HBORN.out
      rw [hsz2, hval] at hen
      have hcell2 : (w2.alloc (.mapIter (some y.nm) clock (seen.push e.born) clock)).cell? ⟨id, 0, none⟩ = some (.slice va sz vc) := by
        rw [World.cell?_alloc_lt _ _ _ (by rw [hsz2]; exact hidl)]
        have : w2.heap = w.heap := hal2.1.trans hal.1
        rw [← hcell]
        unfold World.cell?
        rw [this]
      have hpush := seenG_push (fun e => szV ids D.files e.val) seen e (mem_left he).2 es.toList HS.out.ages (mem_left he).1
      simp only [hg] at hpush
      have hm := HMAX.out seen
      have hrel2 : ∃ (w3 : World) (seen3 : Array Nat), w3.Alike w ∧ w3.tape = w.tape ∧ w2.alloc (.mapIter (some y.nm) clock (seen.push e.born) clock) = w3.alloc (.mapIter (some y.nm) clock seen3 clock) ∧ Value.int .i64 (seenG (fun e => szV ids D.files e.val) seen es.toList + sz) = .int .i64 (seenG (fun e => szV ids D.files e.val) seen3 es.toList) :=
        ⟨w2, seen.push e.born, ⟨hal2.1.trans hal.1, hal2.2.1.trans hal.2.1, hal2.2.2.trans hal.2.2⟩, htp2, rfl, by rw [hpush]⟩
      have hmeas : (leftOf es ((w2.alloc (.mapIter (some y.nm) clock (seen.push e.born) clock)).iterSeen w.heap.size)).size < (leftOf es ((w1.alloc (.mapIter (some y.nm) clock seen clock)).iterSeen w.heap.size)).size := by
        rw [← hsz2, World.iterSeen_alloc, hsz2, ← hsz, World.iterSeen_alloc]
        exact left_shrinks es seen e he
      have HREL := Lib.hid hrel2
      have HMEAS := Lib.hid hmeas
      generalize hsg : seenG (fun e => szV ids D.files e.val) seen es.toList = sg at *
      obtain ⟨hm0, hm1⟩ := hm
      clear hsg hrel2 hmeas hpush hrun htp htp2 hb1 hb2 hal hal2 hg hval hcell hsz2 hsz he
      go_wp2_with fail
      exact ⟨HREL.out, HMEAS.out⟩
end Go.Proofs.YtjfbcjmnjlehaaaGreatDoor
