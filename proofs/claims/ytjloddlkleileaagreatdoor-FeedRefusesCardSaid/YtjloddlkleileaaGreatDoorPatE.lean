/-
  The program's reader of patterns: the whole of a pattern.
-/
import Derived.Test.YtjloddlkleileaaGreatDoorPatD
import Derived.Test.YtjloddlkleileaaGreatDoorLst
import Derived.Deep.RegionWith
import Derived.Deep.RegionHeld3
namespace Go.Proofs.YtjloddlkleileaaGreatDoor
open Go.RowKit
set_option linter.unusedVariables false
set_option linter.unusedSimpArgs false

def pstepC : Codec PStepV := ⟨fun x => [bV x.kind, bV x.name, .bool x.no, .int .i64 x.min, .int .i64 x.max], 5, 342, 239, .agg #[.int .u8 0, .int .u8 0, .bool false, .int .i64 0, .int .i64 0], 24⟩
def pcondC : Codec PCondV := ⟨fun x => [bV x.left, .int .i64 x.op, bV x.right, .int .i64 x.add], 4, 350, 240, .agg #[.int .u8 0, .int .i64 0, .int .u8 0, .int .i64 0], 32⟩
theorem pstepOk : pstepC.Ok := ⟨fun _ => rfl, by decide, fun x v hv => by simp [pstepC] at hv; rcases hv with rfl | rfl | rfl | rfl | rfl <;> rfl, Tryz.underlying239, by kernel_rfl, rfl, by decide⟩
theorem pcondOk : pcondC.Ok := ⟨fun _ => rfl, by decide, fun x v hv => by simp [pcondC] at hv; rcases hv with rfl | rfl | rfl | rfl <;> rfl, Tryz.underlying240, by kernel_rfl, rfl, by decide⟩
/-- The pattern under way: the reader r, the result g, its two lists. -/
structure PP (w0 w : World) (r : Nat) (s : ByteArray) (k g : Nat) (sv cv : Value) (L : List PStepV) (C : List PCondV) (n : Int) : Prop where
  rd : PRd w r s k
  blk : Blk w g 242 #[sv, cv, .int .i64 n]
  steps : Lst pstepC w sv L
  conds : Lst pcondC w cv C
  sown : ∀ b, sv.ownBlock = some b → w0.heap.size ≤ b
  cown : ∀ b, cv.ownBlock = some b → w0.heap.size ≤ b
  hr : r < w0.heap.size
  hg : w0.heap.size ≤ g
  chg : Chg (fun k => k = r) w0 w
section
variable {w0 w w' : World} {r g k j : Nat} {s : ByteArray} {sv cv : Value} {L : List PStepV} {C : List PCondV} {n : Int}
/-- Behind a call of the reader. -/
theorem PP.call (h : PP w0 w r s k g sv cv L C n) (hR : PRd w' r s j) (hc : Chg (fun k => k = r) w w') : PP w0 w' r s j g sv cv L C n :=
  ⟨hR, h.blk.chg hc (by have := h.hr; have := h.hg; intro e; omega), h.steps.chg hc fun b hb e => by have := h.sown b hb; have := h.hr; omega, h.conds.chg hc fun b hb e => by have := h.cown b hb; have := h.hr; omega, h.sown, h.cown, h.hr, h.hg, h.chg.then hc⟩
theorem PP.drewN (h : PP w0 w r s k g sv cv L C n) (m : Nat) : PP w0 (w.drewN m) r s k g sv cv L C n := h.call (h.rd.drewN m) ((Chg.refl _ _).drewN m)
/-- A step was appended, and the list stored back. -/
theorem PP.step {w4 : World} {v' : Value} {x : PStepV} (h : PP w0 w r s k g sv cv L C n) (hO : Lst pstepC w4 v' (L ++ [x])) (hc : Chg (fun k => sv.ownBlock = some k) w w4) (hk : ∀ k, v'.ownBlock = some k → sv.ownBlock = some k ∨ w.heap.size ≤ k) :
    PP w0 (w4.setCell ⟨g, 0, none⟩ v') r s k g v' cv (L ++ [x]) C n := by
  have hset : Chg (fun k => k = g) w4 (w4.setCell ⟨g, 0, none⟩ v') := Chg.setCell (S := fun k => k = g) (Chg.refl _ w4) (p := ⟨g, 0, none⟩) (fun _ => rfl) v'
  have hne : ∀ b, sv.ownBlock = some b → b ≠ g ∧ b ≠ r := fun b hb => by
    obtain ⟨cs, hB⟩ := h.steps.typed hb
    exact ⟨hB.ne_ h.blk (by decide), by have := h.sown b hb; have := h.hr; omega⟩
  have hnc : ∀ b, cv.ownBlock = some b → b ≠ g ∧ sv.ownBlock ≠ some b := fun b hb => by
    obtain ⟨cs, hB⟩ := h.conds.typed hb
    refine ⟨hB.ne_ h.blk (by decide), fun e => ?_⟩
    obtain ⟨cs', hB'⟩ := h.steps.typed e
    exact hB.ne_ hB' (by decide) rfl
  have hg4 : w0.heap.size ≤ w.heap.size := h.chg.size
  refine ⟨(h.rd.chg hc fun e => (hne r e).2 rfl).chg hset (by have := h.hr; have := h.hg; intro e; omega), ?_, ?_, ?_, ?_, h.cown, h.hr, h.hg, ?_⟩
  · have := (h.blk.chg hc fun e => (hne g e).1 rfl).set_ 0 v'
    simpa using this
  · refine hO.chg hset fun b hb e => ?_
    obtain ⟨cs, hB⟩ := hO.typed hb
    exact hB.ne_ (h.blk.chg hc fun e => (hne g e).1 rfl) (by decide) e
  · exact (h.conds.chg hc fun b hb e => (hnc b hb).2 e).chg hset fun b hb e => (hnc b hb).1 e
  · intro b hb
    rcases hk b hb with e | e
    · exact h.sown b e
    · omega
  · exact (h.chg.trans hc fun b hb e => by have := h.sown b e; omega).setCell (fun h' => by have := h.hg; simp at h'; omega) _
theorem PP.cond {w4 : World} {v' : Value} {x : PCondV} (h : PP w0 w r s k g sv cv L C n) (hO : Lst pcondC w4 v' (C ++ [x])) (hc : Chg (fun k => cv.ownBlock = some k) w w4) (hk : ∀ k, v'.ownBlock = some k → cv.ownBlock = some k ∨ w.heap.size ≤ k) :
    PP w0 (w4.setCell ⟨g, 1, none⟩ v') r s k g sv v' L (C ++ [x]) n := by
  have hset : Chg (fun k => k = g) w4 (w4.setCell ⟨g, 1, none⟩ v') := Chg.setCell (S := fun k => k = g) (Chg.refl _ w4) (p := ⟨g, 1, none⟩) (fun _ => rfl) v'
  have hne : ∀ b, cv.ownBlock = some b → b ≠ g ∧ b ≠ r := fun b hb => by
    obtain ⟨cs, hB⟩ := h.conds.typed hb
    exact ⟨hB.ne_ h.blk (by decide), by have := h.cown b hb; have := h.hr; omega⟩
  have hnc : ∀ b, sv.ownBlock = some b → b ≠ g ∧ cv.ownBlock ≠ some b := fun b hb => by
    obtain ⟨cs, hB⟩ := h.steps.typed hb
    refine ⟨hB.ne_ h.blk (by decide), fun e => ?_⟩
    obtain ⟨cs', hB'⟩ := h.conds.typed e
    exact hB.ne_ hB' (by decide) rfl
  have hg4 : w0.heap.size ≤ w.heap.size := h.chg.size
  refine ⟨(h.rd.chg hc fun e => (hne r e).2 rfl).chg hset (by have := h.hr; have := h.hg; intro e; omega), ?_, ?_, ?_, h.sown, ?_, h.hr, h.hg, ?_⟩
  · have := (h.blk.chg hc fun e => (hne g e).1 rfl).set_ 1 v'
    simpa using this
  · exact (h.steps.chg hc fun b hb e => (hnc b hb).2 e).chg hset fun b hb e => (hnc b hb).1 e
  · refine hO.chg hset fun b hb e => ?_
    obtain ⟨cs, hB⟩ := hO.typed hb
    exact hB.ne_ (h.blk.chg hc fun e => (hne g e).1 rfl) (by decide) e
  · intro b hb
    rcases hk b hb with e | e
    · exact h.cown b e
    · omega
  · exact (h.chg.trans hc fun b hb e => by have := h.cown b e; omega).setCell (fun h' => by have := h.hg; simp at h'; omega) _
theorem PP.put_step {w8 w9 : World} {o : Obj} {v' : Value} {x : PStepV} (h : PP w0 w r s k g sv cv L C n) (hR8 : PRd w8 r s j) (h8 : Chg (fun k => k = r) w.drew w8) (hO : Lst pstepC w9 v' (L ++ [x])) (hc : Chg (fun k => sv.ownBlock = some k) (w8.alloc o) w9)
    (hk : ∀ k, v'.ownBlock = some k → sv.ownBlock = some k ∨ (w8.alloc o).heap.size ≤ k) : PP w0 (w9.setCell ⟨g, 0, none⟩ v') r s j g v' cv (L ++ [x]) C n :=
  ((h.call hR8 ((Chg.refl _ _).drew.then h8)).call (hR8.allocw rfl) ((Chg.refl _ _).alloc o)).step hO hc hk
theorem PP.put_cond {w8 w9 : World} {o : Obj} {v' : Value} {x : PCondV} (h : PP w0 w r s k g sv cv L C n) (hR8 : PRd w8 r s j) (h8 : Chg (fun k => k = r) w.drew w8) (hO : Lst pcondC w9 v' (C ++ [x])) (hc : Chg (fun k => cv.ownBlock = some k) (w8.alloc o) w9)
    (hk : ∀ k, v'.ownBlock = some k → cv.ownBlock = some k ∨ (w8.alloc o).heap.size ≤ k) : PP w0 (w9.setCell ⟨g, 1, none⟩ v') r s j g sv v' L (C ++ [x]) n :=
  ((h.call hR8 ((Chg.refl _ _).drew.then h8)).call (hR8.allocw rfl) ((Chg.refl _ _).alloc o)).cond hO hc hk
theorem PP.steps8 {w8 : World} (h : PP w0 w r s k g sv cv L C n) (h8 : Chg (fun k => k = r) w.drew w8) : Lst pstepC w8 sv L := h.steps.chg ((Chg.refl _ _).drew.then h8) fun b hb e => by have := h.sown b hb; have := h.hr; omega
theorem PP.conds8 {w8 : World} (h : PP w0 w r s k g sv cv L C n) (h8 : Chg (fun k => k = r) w.drew w8) : Lst pcondC w8 cv C := h.conds.chg ((Chg.refl _ _).drew.then h8) fun b hb e => by have := h.cown b hb; have := h.hr; omega
theorem PP.sne (h : PP w0 w r s k g sv cv L C n) : ¬ (fun k => sv.ownBlock = some k) g := fun e => by
  obtain ⟨cs, hB⟩ := h.steps.typed e
  exact hB.ne_ h.blk (by decide) rfl
theorem PP.cne (h : PP w0 w r s k g sv cv L C n) : ¬ (fun k => cv.ownBlock = some k) g := fun e => by
  obtain ⟨cs, hB⟩ := h.conds.typed e
  exact hB.ne_ h.blk (by decide) rfl
theorem PP.ne (h : PP w0 w r s k g sv cv L C n) : g ≠ r := by have := h.hr; have := h.hg; omega
theorem PP.snorm {a : Option Addr} {m c : Nat} (h : PP w0 w r s k g (.slice a m c) cv L C n) : m = L.length := by
  obtain ⟨a', c', e, _⟩ := h.steps.form pstepOk
  injection e
theorem PP.cnorm {a : Option Addr} {m c : Nat} (h : PP w0 w r s k g sv (.slice a m c) L C n) : m = C.length := by
  obtain ⟨a', c', e, _⟩ := h.conds.form pcondOk
  injection e
theorem PP.put {n' : Int} (h : PP w0 w r s k g sv cv L C n) (hc : Chg (fun k => k = g) w w') (hb : Blk w' g 242 #[sv, cv, .int .i64 n']) : PP w0 w' r s k g sv cv L C n' :=
  ⟨h.rd.chg hc (fun e => h.ne e.symm), hb, h.steps.chg hc fun b hb' e => by obtain ⟨cs, hB⟩ := h.steps.typed hb'; exact hB.ne_ h.blk (by decide) e, h.conds.chg hc fun b hb' e => by obtain ⟨cs, hB⟩ := h.conds.typed hb'; exact hB.ne_ h.blk (by decide) e, h.sown, h.cown, h.hr, h.hg,
    h.chg.trans hc fun b hb' e => by have := h.hg; have : b = g := e; omega⟩
theorem Chg.seto {g i : Nat} {v : Value} {w w1 : World} (h : Chg (fun k => k = g) w w1) : Chg (fun k => k = g) w (w1.setCell ⟨g, i, none⟩ v) := h.setCell (p := ⟨g, i, none⟩) (fun _ => rfl) v
theorem px_drew {p : Addr} {v : Value} (h : w.cell? p = some v) : w.drew.cell? p = some v := h
theorem px_alloc {p : Addr} {v : Value} (o : Obj) (h : w.cell? p = some v) : (w.alloc o).cell? p = some v := (World.cell?_of_block (w := w) (Below.heap_alloc w o p.block (World.block_lt_of_cell? w p h))).trans h
theorem px_fro {S : Nat → Prop} {b i : Nat} (hc : Chg S w w') (hs : ¬ S b) (hb : b < w.heap.size) (h : w.frozen? ⟨b, i, none⟩ = false) : w'.frozen? ⟨b, i, none⟩ = false := (hc.frozen (p := ⟨b, i, none⟩) hb hs).trans h
theorem px_falloc {b i : Nat} (o : Obj) (hb : b < w.heap.size) (h : w.frozen? ⟨b, i, none⟩ = false) : (w.alloc o).frozen? ⟨b, i, none⟩ = false := px_fro (S := fun _ => False) ((Chg.refl _ w).alloc o) (by simp) hb h
theorem px_frod {S : Nat → Prop} {b i : Nat} (hc : Chg S w.drew w') (hs : ¬ S b) (hb : b < w.heap.size) (h : w.frozen? ⟨b, i, none⟩ = false) : w'.frozen? ⟨b, i, none⟩ = false := px_fro ((Chg.refl _ w).drew.then hc) hs hb h
theorem px_chg {S : Nat → Prop} {b i : Nat} {v : Value} (hc : Chg S w w') (hs : ¬ S b) (h : w.cell? ⟨b, i, none⟩ = some v) : w'.cell? ⟨b, i, none⟩ = some v := (hc.cell (World.block_lt_of_cell? w _ h) hs).trans h
end
theorem lst_sl {α : Type} {C : Codec α} {w : World} {v : Value} {l : List α} (hC : C.Ok) (h : Lst C w v l) : ∃ a n cap, v = .slice a n cap := by
  obtain ⟨a, cap, e, _⟩ := h.form hC
  exact ⟨a, _, cap, e⟩
theorem px_chgd {S : Nat → Prop} {w w' : World} {b i : Nat} {v : Value} (hc : Chg S w.drew w') (hs : ¬ S b) (h : w.cell? ⟨b, i, none⟩ = some v) : w'.cell? ⟨b, i, none⟩ = some v := px_chg ((Chg.refl _ w).drew.then hc) hs h
def PatPost (w : World) (r : Nat) (s : ByteArray) (v : PRes PatV) (e : Ending) (w' : World) : Prop := match v with
  | .inl (p, k) => ∃ sv cv, e = .returned (.agg #[sv, cv, .int .i64 p.within]) ∧ PRd w' r s k ∧ k ≤ s.size ∧ Lst pstepC w' sv p.steps ∧ Lst pcondC w' cv p.conds ∧ (∀ b, sv.ownBlock = some b → w.heap.size ≤ b) ∧ (∀ b, cv.ownBlock = some b → w.heap.size ≤ b) ∧ Chg (fun k => k = r) w w'
  | .inr c => PFault c e ∧ Chg (fun k => k = r) w w'
theorem pat_no {w w1 w2 : World} {r : Nat} {s : ByteArray} {v : PRes PatV} {c : Int} {n : Int} (hv : v = .inr c) (h1 : Chg (fun k => k = r) w w1) (h2 : Chg (fun k => k = r) w1 w2) : PatPost w r s v (.panicked [{ v := .iface 334 (.agg #[.int .i64 n, .int .i64 c]), recovered := false }]) w2 := by
  rw [hv]
  exact ⟨⟨_, rfl⟩, h1.then h2⟩
theorem pa_step_any (r : Nat) (s : ByteArray) (k n : Nat) (hn : n ≤ 8) (hk : k ≤ s.size) (hs : s.size ≤ 4096) (w : World) (hR : PRd w r s k) : Calls Tryz.prog 252 #[.pointer (some ⟨r, 0, none⟩), .int .i64 (n : Int)] w (PPost w r s ((stepP s.data.toList k n).map stV)) := by
  by_cases h : n = 8
  · subst h; exact pa_step_many r s k hk hs w hR
  · exact pa_step r s k n h hk hs w hR
theorem pa_cond_any (r : Nat) (s : ByteArray) (k n : Nat) (hn : n ≤ 16) (hk : k ≤ s.size) (hs : s.size ≤ 4096) (w : World) (hR : PRd w r s k) : Calls Tryz.prog 254 #[.pointer (some ⟨r, 0, none⟩), .int .i64 (n : Int)] w (PPost w r s ((condP s.data.toList k n).map cdV)) := by
  by_cases h : n = 16
  · subst h; exact pa_cond_many r s k hk hs w hR
  · exact pa_cond r s k n h hk hs w hR
def afterSteps (s : List UInt8) (steps : List PStepV) (k : Nat) : PRes PatV := (wordV s [41, 32, 87] k).bind fun _ k4 => whereP s steps k4
def afterConds (s : List UInt8) (steps : List PStepV) (conds : List PCondV) (k : Nat) : PRes PatV := (wordV s [87] k).bind fun _ k5 => withinP s steps conds k5
/-- How many the list in a field has, as a measure: the more, the less. -/
def lenAt (w : World) (g i m : Nat) : Nat := match w.cell? ⟨g, i, none⟩ with
  | some (.slice _ n _) => m - n
  | _ => 0
theorem lenAt_of {w : World} {g i m n : Nat} {a : Option Addr} {c : Nat} (h : w.cell? ⟨g, i, none⟩ = some (.slice a n c)) : lenAt w g i m = m - n := by unfold lenAt; rw [h]
theorem PP.slen {w0 w : World} {r g k : Nat} {s : ByteArray} {cv : Value} {L : List PStepV} {C : List PCondV} {n : Int} {a : Option Addr} {m c : Nat} (h : PP w0 w r s k g (.slice a m c) cv L C n) (M : Nat) : lenAt w g 0 M = M - m := lenAt_of (a := a) (c := c) (by have := h.blk.cell 0; simpa using this)
theorem PP.clen {w0 w : World} {r g k : Nat} {s : ByteArray} {sv : Value} {L : List PStepV} {C : List PCondV} {n : Int} {a : Option Addr} {m c : Nat} (h : PP w0 w r s k g sv (.slice a m c) L C n) (M : Nat) : lenAt w g 1 M = M - m := lenAt_of (a := a) (c := c) (by have := h.blk.cell 1; simpa using this)
/- a call that may panic: contract, number behind, what it reads -/
/- a region that appends what a call reads, and the call panics: world, field; loads may come first -/
/- the same, where the length is read besides -/
/- the window, and the end: place · bound · both lists -/
/- the region that appends: field · okay · list · slice · cells · type · callee · the list at the call's end · the list's fact -/
set_option maxRecDepth 100000 in
set_option maxHeartbeats 8000000 in
theorem pa_pattern (r : Nat) (s : ByteArray) (hs : s.size ≤ 4096) (w : World) (hR : PRd w r s 0) : Calls Tryz.prog 169 #[.pointer (some ⟨r, 0, none⟩)] w (PatPost w r s (patternP s.data.toList)) := by
  have he : patternP s.data.toList = patternP s.data.toList := rfl
  conv at he => rhs; unfold patternP
  obtain ⟨w1, hw1⟩ : ∃ w1, w1 = w.alloc (.cells #[.slice none 0 0, .slice none 0 0, .int .i64 0] 242) := ⟨_, rfl⟩
  have hp : PP w w1 r s 0 w.heap.size (.slice none 0 0) (.slice none 0 0) [] [] 0 := ⟨by rw [hw1]; exact Blk.alloc hR _, by rw [hw1]; exact Blk.new _ _ _, Lst.nil _ _, Lst.nil _ _, by simp [Value.ownBlock], by simp [Value.ownBlock], hR.lt, Nat.le_refl _, by rw [hw1]; ((repeat (first | exact Chg.refl _ _ | assumption | refine Chg.drewN ?_ _ | refine Chg.drew ?_ | refine Chg.alloc ?_ _ | refine Chg.setCell ?_ (by first | (simp; done) | (simp; omega) | (intro h; simp at h; omega)) _)))⟩
  obtain ⟨g, hg⟩ : ∃ g, w.heap.size = g := ⟨_, rfl⟩
  rw [hg] at hp
  have HP := Lib.hid hp
  have HE := Lib.hid he
  have HW1 := Lib.hid hw1
  have HG := Lib.hid hg
  clear hp he hw1 hg
  clear hR
  go_enter Tryz.func169, Tryz.ntmps169
  go_upto_region 1 with fail
  rw [← HW1.out, HG.out]
  go_wp2_with fail
  refine (pa_word r s ⟨#[83, 69, 81, 40]⟩ [83, 69, 81, 40] rfl 0 (Nat.zero_le _) hs (by decide) _ HP.out.rd).mono ?_
  intro e w2 h2
  cases hv2 : wordV s.data.toList [83, 69, 81, 40] 0 with
  | inr c =>
    rw [hv2] at h2
    obtain ⟨⟨n, rfl⟩, h6⟩ := h2
    have he := HE.out
    rw [hv2] at he
    have HE2 := Lib.hid he
    have H6 := Lib.hid h6
    clear he h6
    clear hv2
    go_wp2_with fail
    exact ⟨rfl, pat_no (HE2.out.trans rfl) HP.out.chg H6.out⟩
  | inl x =>
  obtain ⟨x2, k2⟩ := x
  rw [hv2] at h2
  obtain ⟨rfl, hR2, hk2, h6⟩ := h2
  have he := HE.out
  rw [hv2] at he
  simp only [PRes.bind] at he
  have hp := HP.out.call hR2 h6
  clear HP HE hv2 h6 hR2
  have HP := Lib.hid hp
  have HE := Lib.hid he
  clear hp he
  have hst0 := fun W hW => pa_step_any r s k2 0 (by decide) hk2 hs W hW
  have y0 := HP.out.blk.cell 0
  have f0 := HP.out.blk.frozen 0
  simp at y0
  go_upto_region 2 with fail
  go_cut [] (fun wx => ∃ a n c x k3, PP w wx r s k3 g (.slice a n c) (.slice none 0 0) [x] [] 0 ∧ k3 ≤ s.size ∧ patternP s.data.toList = (stepsV s.data.toList 8 [x] k3).bind (afterSteps s.data.toList))
  case first =>
    cases hv : stepP s.data.toList k2 0 with
    | inr c =>
      have hst : ∀ W, PRd W r s k2 → Calls Tryz.prog 252 #[.pointer (some ⟨r, 0, none⟩), .int .i64 0] W fun e w' => PFault c e ∧ Chg (fun k => k = r) W w' := fun W hW => by
        have := hst0 W hW
        rw [hv] at this
        exact this
      have he := HE.out
      rw [hv] at he
      clear HE hv hst0
      have HST := Lib.hid hst
      have HE := Lib.hid he
      clear hst he
      refine wp_region_any (by kernel_rfl) ?_
      show wpAny _ _ _ _ _ _ _ w2.drew
      refine wpAny_take (i := 0) (v := .pointer (some ⟨g, 0, none⟩)) rfl (by kernel_rfl) (by kernel_rfl) (by kernel_rfl) (fun c a w h => h) (Or.inl ⟨by rfl, fun w => by go_simp⟩) ?_
      try simp only [Act.put, List.setIfInBounds_toArray, List.set_cons_zero, List.set_cons_succ]
      refine wpAny_take (i := 2) (v := .pointer (some ⟨r, 0, none⟩)) rfl (by kernel_rfl) (by kernel_rfl) (by kernel_rfl) (fun c a w h => h) (Or.inl ⟨by rfl, fun w => by go_simp⟩) ?_
      try simp only [Act.put, List.setIfInBounds_toArray, List.set_cons_zero, List.set_cons_succ]
      refine wpAny_ready (rs := [1, 3]) (by kernel_rfl) (by simp) ?_
      refine AllReady.cons rfl (fun K hK => ?_) (AllReady.cons rfl (fun K hK => ?_) AllReady.nil)
      · go_simp
        refine hK _ _ ?_
        clear hK K
        try simp only [Act.put, List.setIfInBounds_toArray, List.set_cons_zero, List.set_cons_succ]
        refine wpAny_ready (rs := [3]) (by kernel_rfl) (by simp) ?_
        refine AllReady.cons rfl (fun K hK => ?_) AllReady.nil
        go_simp
        refine (HST.out _ (by exact HP.out.rd)).mono ?_
        rintro e w8 ⟨⟨n, rfl⟩, h6⟩
        exact ⟨rfl, pat_no (HE.out.trans rfl) HP.out.chg.drew h6⟩
      · go_simp
        refine (HST.out _ (by exact HP.out.rd)).mono ?_
        rintro e w8 ⟨⟨n, rfl⟩, h6⟩
        exact ⟨rfl, pat_no (HE.out.trans rfl) HP.out.chg.drew h6⟩
    | inl x =>
      obtain ⟨x, k3⟩ := x
      have hst : ∀ W, PRd W r s k2 → Calls Tryz.prog 252 #[.pointer (some ⟨r, 0, none⟩), .int .i64 0] W fun e w' => e = .returned (.agg #[bV x.kind, bV x.name, .bool x.no, .int .i64 x.min, .int .i64 x.max]) ∧ PRd w' r s k3 ∧ k3 ≤ s.size ∧ Chg (fun k => k = r) W w' := fun W hW => by
        have := hst0 W hW
        rw [hv] at this
        exact this
      have he := HE.out
      rw [hv] at he
      have he : patternP s.data.toList = (stepsV s.data.toList 8 [x] k3).bind (afterSteps s.data.toList) := he
      clear HE hv hst0
      have hgr := HP.out.ne
      have hgl := HP.out.blk.lt
      have hne := HP.out.sne
      have hll : ([] : List PStepV).length ≤ 1000000000 := by decide
      have HST := Lib.hid hst
      have HE := Lib.hid he
      have HNE := Lib.hid hne
      clear hst he hne
      go_region_law (first
        | (go_simp; go_at_call 252; refine (HST.out _ (by exact HP.out.rd)).mono ?_; rintro e w8 ⟨rfl, hR8, hk8, h8⟩; have c8 := px_chgd h8 hgr y0; have f8 := px_frod h8 hgr hgl f0; have g8 := Nat.lt_of_lt_of_le hgl h8.size; have H8 := Lib.hid h8; have HR8 := Lib.hid hR8; clear h8 hR8)
        | (refine step_lst_app pstepOk _ (by rfl) _ _ (by rfl) [] (.slice none 0 0) x (by rfl) ((HP.out.steps8 H8.out).same ((Chg.refl _ _).alloc _)) _ (by rfl) hll (by show Blk _ _ 342 #[bV x.kind, bV x.name, .bool x.no, .int .i64 x.min, .int .i64 x.max]; repeat (first | with_reducible exact Blk.new _ _ _ | with_reducible refine Blk.drew ?_ | with_reducible refine Blk.alloc ?_ _)) ?_; intro v' w9 hO9 hc9 hb9; obtain ⟨a9, n9, p9, rfl⟩ := lst_sl pstepOk hO9; have c9 := px_chg hc9 HNE.out (px_alloc _ c8); have f9 := px_fro hc9 HNE.out (by simp; omega) (px_falloc _ g8 f8); have HO9 := Lib.hid hO9; have HC9 := Lib.hid hc9; have HB9 := Lib.hid hb9; clear hO9 hc9 hb9))
      all_goals
        have hp := HP.out.put_step HR8.out H8.out HO9.out HC9.out HB9.out
        have HPN := Lib.hid hp
        clear hp
        go_wp2_with fail
        go_meet
        exact ⟨_, _, _, _, _, HPN.out, hk8, HE.out⟩
  case rest =>
  obtain ⟨a, n, c, x, k3, hp, hk3, he⟩ := hcut
  clear HP HE hst0 y0 f0 hk2
  have HP := Lib.hid hp
  have HE := Lib.hid he
  clear hp he
  go_wp2_with fail
  go_loopw [] (fun wr => ∃ a c L k, PP w wr r s k g (.slice a L.length c) (.slice none 0 0) L [] 0 ∧ k ≤ s.size ∧ 1 ≤ L.length ∧ L.length ≤ 8 ∧ patternP s.data.toList = (stepsV s.data.toList (9 - L.length) L k).bind (afterSteps s.data.toList)) (fun wr => lenAt wr g 0 9)
  case atStart =>
    obtain ⟨a', c', e, _⟩ := HP.out.steps.form pstepOk
    have hp := HP.out
    rw [e] at hp
    exact ⟨a', c', [x], k3, hp, hk3, by simp, by simp, HE.out⟩
  case round =>
    clear HP HE hk3
    obtain ⟨a, c, L, k, hp, hk, hl1, hl8, he⟩ := hrel
    have y0 := hp.blk.cell 0
    have f0 := hp.blk.frozen 0
    simp at y0
    have hm := lenAt_of (m := 9) y0
    have HM := Lib.hid hm
    clear hm
    have HP := Lib.hid hp
    have HE := Lib.hid he
    clear hp he
    cases hb : isB s.data.toList k 44 44 with
    | false =>
      have he : patternP s.data.toList = afterSteps s.data.toList L k := by
        rw [HE.out]
        obtain ⟨m, hm⟩ : ∃ m, 9 - L.length = m + 1 := ⟨8 - L.length, by omega⟩
        rw [hm, stepsV, if_neg (by rw [hb]; decide)]
        rfl
      clear HE
      conv at he => rhs; unfold afterSteps
      have HE := Lib.hid he
      clear he
      go_wp2_with fail
      refine (pa_has_no hb rfl hk hs HP.out.rd).mono ?_
      rintro e w3 ⟨rfl, hR3, hk3, h6⟩
      have hp := HP.out.call hR3 h6
      clear HP h6 hR3 hb y0 f0
      have HP := Lib.hid hp
      clear hp
      go_wp2_with fail
      refine (pa_word r s ⟨#[41, 32, 87]⟩ [41, 32, 87] rfl k hk3 hs (by decide) _ HP.out.rd).mono ?_
      intro e w4 h4
      cases hv4 : wordV s.data.toList [41, 32, 87] k with
      | inr c =>
        rw [hv4] at h4
        obtain ⟨⟨n, rfl⟩, h6⟩ := h4
        have he := HE.out
        rw [hv4] at he
        have HE2 := Lib.hid he
        have H6 := Lib.hid h6
        clear he h6
        clear hv4
        go_wp2_with fail
        exact ⟨rfl, pat_no (HE2.out.trans rfl) HP.out.chg H6.out⟩
      | inl x =>
      obtain ⟨x4, k4⟩ := x
      rw [hv4] at h4
      obtain ⟨rfl, hR4, hk4, h6⟩ := h4
      have he := HE.out
      rw [hv4] at he
      simp only [PRes.bind] at he
      have hp := HP.out.call hR4 h6
      clear HP HE hv4 h6 hR4
      have HP := Lib.hid hp
      have HE := Lib.hid he
      clear hp he
      have he := HE.out
      conv at he => rhs; unfold whereP
      clear HE
      have HE := Lib.hid he
      clear he
      cases hb : isB s.data.toList k4 72 72 with
      | false =>
        have he := HE.out
        rw [if_neg (by rw [hb]; decide)] at he
        conv at he => rhs; unfold withinP
        clear HE
        have HE := Lib.hid he
        clear he
        go_wp2_with fail
        refine (pa_has_no hb rfl hk4 hs HP.out.rd).mono ?_
        rintro e w5 ⟨rfl, hR5, hk5, h6⟩
        have hp := HP.out.call hR5 h6
        clear HP h6 hR5 hb
        have HP := Lib.hid hp
        clear hp
        go_wp2_with fail
        refine (pa_word r s ⟨#[73, 84, 72, 73, 78, 32]⟩ [73, 84, 72, 73, 78, 32] rfl k4 hk5 hs (by decide) _ HP.out.rd).mono ?_
        intro e w21 h21
        cases hv21 : wordV s.data.toList [73, 84, 72, 73, 78, 32] k4 with
        | inr c =>
          rw [hv21] at h21
          obtain ⟨⟨n, rfl⟩, h6⟩ := h21
          have he := HE.out
          rw [hv21] at he
          have HE2 := Lib.hid he
          have H6 := Lib.hid h6
          clear he h6
          clear hv21
          go_wp2_with fail
          exact ⟨rfl, pat_no (HE2.out.trans rfl) HP.out.chg H6.out⟩
        | inl x =>
        obtain ⟨x21, k21⟩ := x
        rw [hv21] at h21
        obtain ⟨rfl, hR21, hk21, h6⟩ := h21
        have he := HE.out
        rw [hv21] at he
        simp only [PRes.bind] at he
        have hp := HP.out.call hR21 h6
        clear HP HE hv21 h6 hR21
        have HP := Lib.hid hp
        have HE := Lib.hid he
        clear hp he
        go_wp2_with fail
        refine (pa_number r s _ 48 48 rfl (by decide) hk21 hs _ HP.out.rd).mono ?_
        intro e w22 h22
        cases hv22 : numberP s.data.toList k21 48 with
        | inr c =>
          rw [hv22] at h22
          obtain ⟨⟨n, rfl⟩, h6⟩ := h22
          have he := HE.out
          rw [hv22] at he
          have HE2 := Lib.hid he
          have H6 := Lib.hid h6
          clear he h6
          clear hv22
          go_wp2_with fail
          exact ⟨rfl, pat_no (HE2.out.trans rfl) HP.out.chg H6.out⟩
        | inl x =>
        obtain ⟨x22, k22⟩ := x
        rw [hv22] at h22
        obtain ⟨rfl, hR22, hk22, h6⟩ := h22
        have he := HE.out
        rw [hv22] at he
        simp only [PRes.bind] at he
        have hp := HP.out.call hR22 h6
        clear HP HE hv22 h6 hR22
        have HP := Lib.hid hp
        have HE := Lib.hid he
        clear hp he
        have hb := HP.out.blk
        have y0 := hb.cell 0
        have y1 := hb.cell 1
        have y2 := hb.cell 2
        have yf0 := hb.frozen 0
        have yf1 := hb.frozen 1
        have yf2 := hb.frozen 2
        simp at y0 y1 y2
        have HB := Lib.hid hb
        clear hb
        go_wp2_with fail
        obtain ⟨wz, hwz⟩ : ∃ wz : World, wz = ((((w22.setCell ⟨g, 2, none⟩ (.int .i64 x22)).setCell ⟨g, 0, none⟩ (.slice a L.length c)).setCell ⟨g, 1, none⟩ (.slice none 0 0)).setCell ⟨g, 2, none⟩ (.int .i64 x22)) := ⟨_, rfl⟩
        have hb9 : Blk wz g 242 #[.slice a L.length c, .slice none 0 0, .int .i64 x22] := by
          rw [hwz]
          simpa using (((HB.out.set_ 2 (.int .i64 x22)).set_ 0 (.slice a L.length c)).set_ 1 (.slice none 0 0)).set_ 2 (.int .i64 x22)
        have hc9 : Chg (fun k => k = g) w22 wz := by rw [hwz]; exact Chg.seto (Chg.seto (Chg.seto (Chg.seto (Chg.refl _ _))))
        rw [← hwz]
        have hp := HP.out.put hc9 hb9
        have zx0 := hb9.cell 0
        have zx1 := hb9.cell 1
        have zx2 := hb9.cell 2
        simp at zx0 zx1 zx2
        refine bodyPost_ret (v := .agg #[.slice a L.length c, .slice none 0 0, .int .i64 x22]) (by simp [results, Tryz.results169, go_sem, zx0, zx1, zx2]) rfl ?_
        rw [HE.out]
        exact ⟨_, _, rfl, hp.rd, hk22, hp.steps, hp.conds, hp.sown, hp.cown, hp.chg⟩
      | true =>
        have he := HE.out
        rw [if_pos hb] at he
        clear HE
        have HE := Lib.hid he
        clear he
        go_wp2_with fail
        refine (pa_has_yes hb rfl hk4 hs HP.out.rd).mono ?_
        rintro e w5 ⟨rfl, hR5, hk5, h6⟩
        have hp := HP.out.call hR5 h6
        clear HP h6 hR5 hb
        have HP := Lib.hid hp
        clear hp
        go_wp2_with fail
        refine (pa_word r s ⟨#[69, 82, 69, 32]⟩ [69, 82, 69, 32] rfl (k4 + 1) hk5 hs (by decide) _ HP.out.rd).mono ?_
        intro e w6 h6
        cases hv6 : wordV s.data.toList [69, 82, 69, 32] (k4 + 1) with
        | inr c =>
          rw [hv6] at h6
          obtain ⟨⟨n, rfl⟩, h6⟩ := h6
          have he := HE.out
          rw [hv6] at he
          have HE2 := Lib.hid he
          have H6 := Lib.hid h6
          clear he h6
          clear hv6
          go_wp2_with fail
          exact ⟨rfl, pat_no (HE2.out.trans rfl) HP.out.chg H6.out⟩
        | inl x =>
        obtain ⟨x6, k6⟩ := x
        rw [hv6] at h6
        obtain ⟨rfl, hR6, hk6, h6⟩ := h6
        have he := HE.out
        rw [hv6] at he
        simp only [PRes.bind] at he
        have hp := HP.out.call hR6 h6
        clear HP HE hv6 h6 hR6
        have HP := Lib.hid hp
        have HE := Lib.hid he
        clear hp he
        have hst0 := fun W hW => pa_cond_any r s k6 0 (by decide) hk6 hs W hW
        have y0 := HP.out.blk.cell 1
        have f0 := HP.out.blk.frozen 1
        simp at y0
        go_upto_region 8 with fail
        go_cut [] (fun wx => ∃ a2 n2 c2 x k7, PP w wx r s k7 g (.slice a L.length c) (.slice a2 n2 c2) L [x] 0 ∧ k7 ≤ s.size ∧ patternP s.data.toList = (wordV s.data.toList [32] k7).bind fun _ k3 => (condsV s.data.toList 16 [x] k3).bind (afterConds s.data.toList L))
        case first =>
          cases hv : condP s.data.toList k6 0 with
          | inr d =>
            have hst : ∀ W, PRd W r s k6 → Calls Tryz.prog 254 #[.pointer (some ⟨r, 0, none⟩), .int .i64 0] W fun e w' => PFault d e ∧ Chg (fun k => k = r) W w' := fun W hW => by
              have := hst0 W hW
              rw [hv] at this
              exact this
            have he := HE.out
            rw [hv] at he
            clear HE hv hst0
            have HST := Lib.hid hst
            have HE := Lib.hid he
            clear hst he
            refine wp_region_any (by kernel_rfl) ?_
            show wpAny _ _ _ _ _ _ _ w6.drew
            refine wpAny_take (i := 0) (v := .pointer (some ⟨g, 1, none⟩)) rfl (by kernel_rfl) (by kernel_rfl) (by kernel_rfl) (fun c a w h => h) (Or.inl ⟨by rfl, fun w => by go_simp⟩) ?_
            try simp only [Act.put, List.setIfInBounds_toArray, List.set_cons_zero, List.set_cons_succ]
            refine wpAny_take (i := 2) (v := .pointer (some ⟨r, 0, none⟩)) rfl (by kernel_rfl) (by kernel_rfl) (by kernel_rfl) (fun c a w h => h) (Or.inl ⟨by rfl, fun w => by go_simp⟩) ?_
            try simp only [Act.put, List.setIfInBounds_toArray, List.set_cons_zero, List.set_cons_succ]
            refine wpAny_ready (rs := [1, 3]) (by kernel_rfl) (by simp) ?_
            refine AllReady.cons rfl (fun K hK => ?_) (AllReady.cons rfl (fun K hK => ?_) AllReady.nil)
            · go_simp
              refine hK _ _ ?_
              clear hK K
              try simp only [Act.put, List.setIfInBounds_toArray, List.set_cons_zero, List.set_cons_succ]
              refine wpAny_ready (rs := [3]) (by kernel_rfl) (by simp) ?_
              refine AllReady.cons rfl (fun K hK => ?_) AllReady.nil
              go_simp
              refine (HST.out _ (by exact HP.out.rd)).mono ?_
              rintro e w8 ⟨⟨n, rfl⟩, h6⟩
              exact ⟨rfl, pat_no (HE.out.trans rfl) HP.out.chg.drew h6⟩
            · go_simp
              refine (HST.out _ (by exact HP.out.rd)).mono ?_
              rintro e w8 ⟨⟨n, rfl⟩, h6⟩
              exact ⟨rfl, pat_no (HE.out.trans rfl) HP.out.chg.drew h6⟩
          | inl x =>
            obtain ⟨x, k7⟩ := x
            have hst : ∀ W, PRd W r s k6 → Calls Tryz.prog 254 #[.pointer (some ⟨r, 0, none⟩), .int .i64 0] W fun e w' => e = .returned (.agg #[bV x.left, .int .i64 x.op, bV x.right, .int .i64 x.add]) ∧ PRd w' r s k7 ∧ k7 ≤ s.size ∧ Chg (fun k => k = r) W w' := fun W hW => by
              have := hst0 W hW
              rw [hv] at this
              exact this
            have he := HE.out
            rw [hv] at he
            have he : patternP s.data.toList = (wordV s.data.toList [32] k7).bind fun _ k3 => (condsV s.data.toList 16 [x] k3).bind (afterConds s.data.toList L) := he
            clear HE hv hst0
            have hgr := HP.out.ne
            have hgl := HP.out.blk.lt
            have hne := HP.out.cne
            have hll : ([] : List PCondV).length ≤ 1000000000 := by decide
            have HST := Lib.hid hst
            have HE := Lib.hid he
            have HNE := Lib.hid hne
            clear hst he hne
            go_region_law (first
              | (go_simp; go_at_call 254; refine (HST.out _ (by exact HP.out.rd)).mono ?_; rintro e w8 ⟨rfl, hR8, hk8, h8⟩; have c8 := px_chgd h8 hgr y0; have f8 := px_frod h8 hgr hgl f0; have g8 := Nat.lt_of_lt_of_le hgl h8.size; have H8 := Lib.hid h8; have HR8 := Lib.hid hR8; clear h8 hR8)
              | (refine step_lst_app pcondOk _ (by rfl) _ _ (by rfl) [] (.slice none 0 0) x (by rfl) ((HP.out.conds8 H8.out).same ((Chg.refl _ _).alloc _)) _ (by rfl) hll (by show Blk _ _ 350 #[bV x.left, .int .i64 x.op, bV x.right, .int .i64 x.add]; repeat (first | with_reducible exact Blk.new _ _ _ | with_reducible refine Blk.drew ?_ | with_reducible refine Blk.alloc ?_ _)) ?_; intro v' w9 hO9 hc9 hb9; obtain ⟨a9, n9, p9, rfl⟩ := lst_sl pcondOk hO9; have c9 := px_chg hc9 HNE.out (px_alloc _ c8); have f9 := px_fro hc9 HNE.out (by simp; omega) (px_falloc _ g8 f8); have HO9 := Lib.hid hO9; have HC9 := Lib.hid hc9; have HB9 := Lib.hid hb9; clear hO9 hc9 hb9))
            all_goals
              have hp := HP.out.put_cond HR8.out H8.out HO9.out HC9.out HB9.out
              have HPN := Lib.hid hp
              clear hp
              go_wp2_with fail
              go_meet
              exact ⟨_, _, _, _, _, HPN.out, hk8, HE.out⟩
        case rest =>
        clear HP HE hst0 y0 f0
        obtain ⟨a2, n2, c2, x, k7, hp, hk7, he⟩ := hcut
        have HP := Lib.hid hp
        have HE := Lib.hid he
        clear hp he
        go_wp2_with fail
        go_wp2_with fail
        refine (pa_word r s ⟨#[32]⟩ [32] rfl k7 hk7 hs (by decide) _ HP.out.rd).mono ?_
        intro e w8 h8
        cases hv8 : wordV s.data.toList [32] k7 with
        | inr c =>
          rw [hv8] at h8
          obtain ⟨⟨n, rfl⟩, h6⟩ := h8
          have he := HE.out
          rw [hv8] at he
          have HE2 := Lib.hid he
          have H6 := Lib.hid h6
          clear he h6
          clear hv8
          go_wp2_with fail
          exact ⟨rfl, pat_no (HE2.out.trans rfl) HP.out.chg H6.out⟩
        | inl x =>
        obtain ⟨x8, k8⟩ := x
        rw [hv8] at h8
        obtain ⟨rfl, hR8, hk8, h6⟩ := h8
        have he := HE.out
        rw [hv8] at he
        simp only [PRes.bind] at he
        have hp := HP.out.call hR8 h6
        clear HP HE hv8 h6 hR8
        have HP := Lib.hid hp
        have HE := Lib.hid he
        clear hp he
        go_wp2_with fail
        go_loopw [] (fun wr => ∃ a2 c2 C k, PP w wr r s k g (.slice a L.length c) (.slice a2 C.length c2) L C 0 ∧ k ≤ s.size ∧ 1 ≤ C.length ∧ C.length ≤ 16 ∧ patternP s.data.toList = (condsV s.data.toList (17 - C.length) C k).bind (afterConds s.data.toList L)) (fun wr => lenAt wr g 1 17)
        case atStart =>
          have hp := HP.out
          have e := hp.cnorm
          subst e
          exact ⟨a2, c2, [x], k8, hp, hk8, by simp, by simp, HE.out⟩
        case round =>
          clear HP HE hk8 hk7 hk6 hk5 hk4 hk3
          obtain ⟨a2, c2, C, k, hp, hk, hl1, hl8, he⟩ := hrel
          have hz := hp.blk.cell 1
          simp at hz
          have hm := lenAt_of (m := 17) hz
          clear HM hz
          have HP := Lib.hid hp
          have HE := Lib.hid he
          have HM := Lib.hid hm
          clear hp he hm
          cases hb : isB s.data.toList k 65 65 with
          | false =>
            have he : patternP s.data.toList = afterConds s.data.toList L C k := by
              rw [HE.out]
              obtain ⟨m, hm⟩ : ∃ m, 17 - C.length = m + 1 := ⟨16 - C.length, by omega⟩
              rw [hm, condsV, if_neg (by rw [hb]; decide)]
              rfl
            clear HE
            conv at he => rhs; unfold afterConds
            have HE := Lib.hid he
            clear he
            go_wp2_with fail
            refine (pa_has_no hb rfl hk hs HP.out.rd).mono ?_
            rintro e w9 ⟨rfl, hR9, hk9, h6⟩
            have hp := HP.out.call hR9 h6
            clear HP h6 hR9 hb
            have HP := Lib.hid hp
            clear hp
            go_wp2_with fail
            refine (pa_word r s ⟨#[87]⟩ [87] rfl k hk9 hs (by decide) _ HP.out.rd).mono ?_
            intro e w10 h10
            cases hv10 : wordV s.data.toList [87] k with
            | inr c =>
              rw [hv10] at h10
              obtain ⟨⟨n, rfl⟩, h6⟩ := h10
              have he := HE.out
              rw [hv10] at he
              have HE2 := Lib.hid he
              have H6 := Lib.hid h6
              clear he h6
              clear hv10
              go_wp2_with fail
              exact ⟨rfl, pat_no (HE2.out.trans rfl) HP.out.chg H6.out⟩
            | inl x =>
            obtain ⟨x10, k10⟩ := x
            rw [hv10] at h10
            obtain ⟨rfl, hR10, hk10, h6⟩ := h10
            have he := HE.out
            rw [hv10] at he
            simp only [PRes.bind] at he
            have hp := HP.out.call hR10 h6
            clear HP HE hv10 h6 hR10
            have HP := Lib.hid hp
            have HE := Lib.hid he
            clear hp he
            have he := HE.out
            conv at he => rhs; unfold withinP
            clear HE
            have HE := Lib.hid he
            clear he
            go_wp2_with fail
            refine (pa_word r s ⟨#[73, 84, 72, 73, 78, 32]⟩ [73, 84, 72, 73, 78, 32] rfl k10 hk10 hs (by decide) _ HP.out.rd).mono ?_
            intro e w21 h21
            cases hv21 : wordV s.data.toList [73, 84, 72, 73, 78, 32] k10 with
            | inr c =>
              rw [hv21] at h21
              obtain ⟨⟨n, rfl⟩, h6⟩ := h21
              have he := HE.out
              rw [hv21] at he
              have HE2 := Lib.hid he
              have H6 := Lib.hid h6
              clear he h6
              clear hv21
              go_wp2_with fail
              exact ⟨rfl, pat_no (HE2.out.trans rfl) HP.out.chg H6.out⟩
            | inl x =>
            obtain ⟨x21, k21⟩ := x
            rw [hv21] at h21
            obtain ⟨rfl, hR21, hk21, h6⟩ := h21
            have he := HE.out
            rw [hv21] at he
            simp only [PRes.bind] at he
            have hp := HP.out.call hR21 h6
            clear HP HE hv21 h6 hR21
            have HP := Lib.hid hp
            have HE := Lib.hid he
            clear hp he
            go_wp2_with fail
            refine (pa_number r s _ 48 48 rfl (by decide) hk21 hs _ HP.out.rd).mono ?_
            intro e w22 h22
            cases hv22 : numberP s.data.toList k21 48 with
            | inr c =>
              rw [hv22] at h22
              obtain ⟨⟨n, rfl⟩, h6⟩ := h22
              have he := HE.out
              rw [hv22] at he
              have HE2 := Lib.hid he
              have H6 := Lib.hid h6
              clear he h6
              clear hv22
              go_wp2_with fail
              exact ⟨rfl, pat_no (HE2.out.trans rfl) HP.out.chg H6.out⟩
            | inl x =>
            obtain ⟨x22, k22⟩ := x
            rw [hv22] at h22
            obtain ⟨rfl, hR22, hk22, h6⟩ := h22
            have he := HE.out
            rw [hv22] at he
            simp only [PRes.bind] at he
            have hp := HP.out.call hR22 h6
            clear HP HE hv22 h6 hR22
            have HP := Lib.hid hp
            have HE := Lib.hid he
            clear hp he
            have hb := HP.out.blk
            have y0 := hb.cell 0
            have y1 := hb.cell 1
            have y2 := hb.cell 2
            have yf0 := hb.frozen 0
            have yf1 := hb.frozen 1
            have yf2 := hb.frozen 2
            simp at y0 y1 y2
            have HB := Lib.hid hb
            clear hb
            go_wp2_with fail
            obtain ⟨wz, hwz⟩ : ∃ wz : World, wz = ((((w22.setCell ⟨g, 2, none⟩ (.int .i64 x22)).setCell ⟨g, 0, none⟩ (.slice a L.length c)).setCell ⟨g, 1, none⟩ (.slice a2 C.length c2)).setCell ⟨g, 2, none⟩ (.int .i64 x22)) := ⟨_, rfl⟩
            have hb9 : Blk wz g 242 #[.slice a L.length c, .slice a2 C.length c2, .int .i64 x22] := by
              rw [hwz]
              simpa using (((HB.out.set_ 2 (.int .i64 x22)).set_ 0 (.slice a L.length c)).set_ 1 (.slice a2 C.length c2)).set_ 2 (.int .i64 x22)
            have hc9 : Chg (fun k => k = g) w22 wz := by rw [hwz]; exact Chg.seto (Chg.seto (Chg.seto (Chg.seto (Chg.refl _ _))))
            rw [← hwz]
            have hp := HP.out.put hc9 hb9
            have zx0 := hb9.cell 0
            have zx1 := hb9.cell 1
            have zx2 := hb9.cell 2
            simp at zx0 zx1 zx2
            refine bodyPost_ret (v := .agg #[.slice a L.length c, .slice a2 C.length c2, .int .i64 x22]) (by simp [results, Tryz.results169, go_sem, zx0, zx1, zx2]) rfl ?_
            rw [HE.out]
            exact ⟨_, _, rfl, hp.rd, hk22, hp.steps, hp.conds, hp.sown, hp.cown, hp.chg⟩
          | true =>
            have he : patternP s.data.toList = (wordV s.data.toList [78, 68, 32] (k + 1)).bind fun _ k1 => (condP s.data.toList k1 C.length).bind fun x k2 => (wordV s.data.toList [32] k2).bind fun _ k3 => (condsV s.data.toList (17 - (C.length + 1)) (C ++ [x]) k3).bind (afterConds s.data.toList L) := by
              rw [HE.out]
              obtain ⟨m, hm⟩ : ∃ m, 17 - C.length = m + 1 := ⟨16 - C.length, by omega⟩
              rw [hm, condsV, if_pos hb, show 17 - (C.length + 1) = m by omega]
              cases wordV s.data.toList [78, 68, 32] (k + 1) with
              | inr c => rfl
              | inl x =>
                obtain ⟨x, j⟩ := x
                show ((condP s.data.toList j C.length).bind _).bind _ = (condP s.data.toList j C.length).bind _
                cases condP s.data.toList j C.length with
                | inr c => rfl
                | inl y =>
                  obtain ⟨y, j2⟩ := y
                  show ((wordV s.data.toList [32] j2).bind _).bind _ = (wordV s.data.toList [32] j2).bind _
                  cases wordV s.data.toList [32] j2 with
                  | inr c => rfl
                  | inl z => rfl
            clear HE
            have HE := Lib.hid he
            clear he
            go_wp2_with fail
            refine (pa_has_yes hb rfl hk hs HP.out.rd).mono ?_
            rintro e w9 ⟨rfl, hR9, hk9, h6⟩
            have hp := HP.out.call hR9 h6
            clear HP h6 hR9 hb
            have HP := Lib.hid hp
            clear hp
            go_wp2_with fail
            refine (pa_word r s ⟨#[78, 68, 32]⟩ [78, 68, 32] rfl (k + 1) hk9 hs (by decide) _ HP.out.rd).mono ?_
            intro e w10 h10
            cases hv10 : wordV s.data.toList [78, 68, 32] (k + 1) with
            | inr c =>
              rw [hv10] at h10
              obtain ⟨⟨n, rfl⟩, h6⟩ := h10
              have he := HE.out
              rw [hv10] at he
              have HE2 := Lib.hid he
              have H6 := Lib.hid h6
              clear he h6
              clear hv10
              go_wp2_with fail
              exact ⟨rfl, pat_no (HE2.out.trans rfl) HP.out.chg H6.out⟩
            | inl x =>
            obtain ⟨x10, k10⟩ := x
            rw [hv10] at h10
            obtain ⟨rfl, hR10, hk10, h6⟩ := h10
            have he := HE.out
            rw [hv10] at he
            simp only [PRes.bind] at he
            have hp := HP.out.call hR10 h6
            clear HP HE hv10 h6 hR10
            have HP := Lib.hid hp
            have HE := Lib.hid he
            clear hp he
            have hst0 := fun W hW => pa_cond_any r s k10 C.length hl8 hk10 hs W hW
            have y0 := HP.out.blk.cell 1
            have f0 := HP.out.blk.frozen 1
            simp at y0
            go_upto_region 12 with fail
            go_cut [] (fun wx => ∃ a3 n3 c3 x k11, PP w wx r s k11 g (.slice a L.length c) (.slice a3 n3 c3) L (C ++ [x]) 0 ∧ k11 ≤ s.size ∧ C.length ≤ 15 ∧ patternP s.data.toList = (wordV s.data.toList [32] k11).bind fun _ k3 => (condsV s.data.toList (17 - (C.length + 1)) (C ++ [x]) k3).bind (afterConds s.data.toList L))
            case first =>
              cases hv : condP s.data.toList k10 C.length with
              | inr d =>
                have hst : ∀ W, PRd W r s k10 → Calls Tryz.prog 254 #[.pointer (some ⟨r, 0, none⟩), .int .i64 (C.length : Int)] W fun e w' => PFault d e ∧ Chg (fun k => k = r) W w' := fun W hW => by
                  have := hst0 W hW
                  rw [hv] at this
                  exact this
                have he := HE.out
                rw [hv] at he
                clear HE hv hst0
                have HST := Lib.hid hst
                have HE := Lib.hid he
                clear hst he
                refine wp_region_any (by kernel_rfl) ?_
                show wpAny _ _ _ _ _ _ _ w10.drew
                refine wpAny_take (i := 0) (v := .pointer (some ⟨g, 1, none⟩)) rfl (by kernel_rfl) (by kernel_rfl) (by kernel_rfl) (fun c a w h => h) (Or.inl ⟨by rfl, fun w => by go_simp⟩) ?_
                try simp only [Act.put, List.setIfInBounds_toArray, List.set_cons_zero, List.set_cons_succ]
                refine wpAny_take (i := 2) (v := .pointer (some ⟨r, 0, none⟩)) rfl (by kernel_rfl) (by kernel_rfl) (by kernel_rfl) (fun c a w h => h) (Or.inl ⟨by rfl, fun w => by go_simp⟩) ?_
                try simp only [Act.put, List.setIfInBounds_toArray, List.set_cons_zero, List.set_cons_succ]
                refine wpAny_take (i := 3) (v := .pointer (some ⟨g, 1, none⟩)) rfl (by kernel_rfl) (by kernel_rfl) (by kernel_rfl) (fun c a w h => h) (Or.inl ⟨by rfl, fun w => by go_simp⟩) ?_
                try simp only [Act.put, List.setIfInBounds_toArray, List.set_cons_zero, List.set_cons_succ]
                refine wpAny_ready (rs := [1, 4]) (by kernel_rfl) (by simp) ?_
                refine AllReady.cons rfl (fun K hK => ?_) (AllReady.cons rfl (fun K hK => ?_) AllReady.nil)
                · skip
                  go_simp
                  refine hK _ _ ?_
                  clear hK K
                  try simp only [Act.put, List.setIfInBounds_toArray, List.set_cons_zero, List.set_cons_succ]
                  refine wpAny_ready (rs := [4]) (by kernel_rfl) (by simp) ?_
                  refine AllReady.cons rfl (fun K hK => ?_) AllReady.nil
                  go_simp
                  refine hK _ _ ?_
                  clear hK K
                  try simp only [Act.put, List.setIfInBounds_toArray, List.set_cons_zero, List.set_cons_succ]
                  refine wpAny_ready (rs := [5]) (by kernel_rfl) (by simp) ?_
                  refine AllReady.cons rfl (fun K hK => ?_) AllReady.nil
                  go_simp
                  refine hK _ _ ?_
                  clear hK K
                  try simp only [Act.put, List.setIfInBounds_toArray, List.set_cons_zero, List.set_cons_succ]
                  refine wpAny_ready (rs := [6]) (by kernel_rfl) (by simp) ?_
                  refine AllReady.cons rfl (fun K hK => ?_) AllReady.nil
                  go_simp
                  refine (HST.out _ (by exact HP.out.rd)).mono ?_
                  rintro e w8 ⟨⟨n, rfl⟩, h6⟩
                  exact ⟨rfl, pat_no (HE.out.trans rfl) HP.out.chg.drew h6⟩
                · skip
                  go_simp
                  refine hK _ _ ?_
                  clear hK K
                  try simp only [Act.put, List.setIfInBounds_toArray, List.set_cons_zero, List.set_cons_succ]
                  refine wpAny_ready (rs := [1, 5]) (by kernel_rfl) (by simp) ?_
                  refine AllReady.cons rfl (fun K hK => ?_) (AllReady.cons rfl (fun K hK => ?_) AllReady.nil)
                  · skip
                    go_simp
                    refine hK _ _ ?_
                    clear hK K
                    try simp only [Act.put, List.setIfInBounds_toArray, List.set_cons_zero, List.set_cons_succ]
                    refine wpAny_ready (rs := [5]) (by kernel_rfl) (by simp) ?_
                    refine AllReady.cons rfl (fun K hK => ?_) AllReady.nil
                    go_simp
                    refine hK _ _ ?_
                    clear hK K
                    try simp only [Act.put, List.setIfInBounds_toArray, List.set_cons_zero, List.set_cons_succ]
                    refine wpAny_ready (rs := [6]) (by kernel_rfl) (by simp) ?_
                    refine AllReady.cons rfl (fun K hK => ?_) AllReady.nil
                    go_simp
                    refine (HST.out _ (by exact HP.out.rd)).mono ?_
                    rintro e w8 ⟨⟨n, rfl⟩, h6⟩
                    exact ⟨rfl, pat_no (HE.out.trans rfl) HP.out.chg.drew h6⟩
                  · skip
                    go_simp
                    refine hK _ _ ?_
                    clear hK K
                    try simp only [Act.put, List.setIfInBounds_toArray, List.set_cons_zero, List.set_cons_succ]
                    refine wpAny_ready (rs := [1, 6]) (by kernel_rfl) (by simp) ?_
                    refine AllReady.cons rfl (fun K hK => ?_) (AllReady.cons rfl (fun K hK => ?_) AllReady.nil)
                    · skip
                      go_simp
                      refine hK _ _ ?_
                      clear hK K
                      try simp only [Act.put, List.setIfInBounds_toArray, List.set_cons_zero, List.set_cons_succ]
                      refine wpAny_ready (rs := [6]) (by kernel_rfl) (by simp) ?_
                      refine AllReady.cons rfl (fun K hK => ?_) AllReady.nil
                      go_simp
                      refine (HST.out _ (by exact HP.out.rd)).mono ?_
                      rintro e w8 ⟨⟨n, rfl⟩, h6⟩
                      exact ⟨rfl, pat_no (HE.out.trans rfl) HP.out.chg.drew h6⟩
                    · skip
                      go_simp
                      refine (HST.out _ (by exact HP.out.rd)).mono ?_
                      rintro e w8 ⟨⟨n, rfl⟩, h6⟩
                      exact ⟨rfl, pat_no (HE.out.trans rfl) HP.out.chg.drew h6⟩
              | inl x =>
                obtain ⟨x, k11⟩ := x
                have hst : ∀ W, PRd W r s k10 → Calls Tryz.prog 254 #[.pointer (some ⟨r, 0, none⟩), .int .i64 (C.length : Int)] W fun e w' => e = .returned (.agg #[bV x.left, .int .i64 x.op, bV x.right, .int .i64 x.add]) ∧ PRd w' r s k11 ∧ k11 ≤ s.size ∧ Chg (fun k => k = r) W w' := fun W hW => by
                  have := hst0 W hW
                  rw [hv] at this
                  exact this
                have h8 : C.length ≠ 16 := fun e => by
                  rw [e, condP, if_pos rfl] at hv
                  cases hv
                have h15 : C.length ≤ 15 := by omega
                have he := HE.out
                rw [hv] at he
                simp only [PRes.bind] at he
                clear HE hv hst0
                have hgr := HP.out.ne
                have hgl := HP.out.blk.lt
                have hne := HP.out.cne
                have hll : C.length ≤ 1000000000 := by omega
                have HST := Lib.hid hst
                have HE := Lib.hid he
                have HNE := Lib.hid hne
                clear hst he hne
                go_region_law (first
                  | (go_simp; go_at_call 254; refine (HST.out _ (by exact HP.out.rd)).mono ?_; rintro e w8 ⟨rfl, hR8, hk8, h8⟩; have c8 := px_chgd h8 hgr y0; have f8 := px_frod h8 hgr hgl f0; have g8 := Nat.lt_of_lt_of_le hgl h8.size; have H8 := Lib.hid h8; have HR8 := Lib.hid hR8; clear h8 hR8)
                  | (refine step_lst_app pcondOk _ (by rfl) _ _ (by rfl) C (.slice a2 C.length c2) x (by rfl) ((HP.out.conds8 H8.out).same ((Chg.refl _ _).alloc _)) _ (by rfl) hll (by show Blk _ _ 350 #[bV x.left, .int .i64 x.op, bV x.right, .int .i64 x.add]; repeat (first | with_reducible exact Blk.new _ _ _ | with_reducible refine Blk.drew ?_ | with_reducible refine Blk.alloc ?_ _)) ?_; intro v' w9 hO9 hc9 hb9; obtain ⟨a9, n9, p9, rfl⟩ := lst_sl pcondOk hO9; have c9 := px_chg hc9 HNE.out (px_alloc _ c8); have f9 := px_fro hc9 HNE.out (by simp; omega) (px_falloc _ g8 f8); have HO9 := Lib.hid hO9; have HC9 := Lib.hid hc9; have HB9 := Lib.hid hb9; clear hO9 hc9 hb9))
                all_goals
                  have hp := HP.out.put_cond HR8.out H8.out HO9.out HC9.out HB9.out
                  have HPN := Lib.hid hp
                  clear hp
                  go_wp2_with fail
                  go_meet
                  exact ⟨_, _, _, _, _, HPN.out, hk8, h15, HE.out⟩
            case rest =>
            have hm1 : lenAt wr g 1 17 = 17 - C.length := HM.out
            clear HP HE hst0 y0 f0
            obtain ⟨a3, n3, c3, x, k11, hp, hk11, h15, he⟩ := hcut
            have HP := Lib.hid hp
            have HE := Lib.hid he
            have HM1 := Lib.hid hm1
            clear hp he hm1
            go_wp2_with fail
            go_wp2_with fail
            refine (pa_word r s ⟨#[32]⟩ [32] rfl k11 hk11 hs (by decide) _ HP.out.rd).mono ?_
            intro e w12 h12
            cases hv12 : wordV s.data.toList [32] k11 with
            | inr c =>
              rw [hv12] at h12
              obtain ⟨⟨n, rfl⟩, h6⟩ := h12
              have he := HE.out
              rw [hv12] at he
              have HE2 := Lib.hid he
              have H6 := Lib.hid h6
              clear he h6
              clear hv12
              go_wp2_with fail
              exact ⟨rfl, pat_no (HE2.out.trans rfl) HP.out.chg H6.out⟩
            | inl x =>
            obtain ⟨x12, k12⟩ := x
            rw [hv12] at h12
            obtain ⟨rfl, hR12, hk12, h6⟩ := h12
            have he := HE.out
            rw [hv12] at he
            simp only [PRes.bind] at he
            have hp := HP.out.call hR12 h6
            clear HP HE hv12 h6 hR12
            have HP := Lib.hid hp
            have HE := Lib.hid he
            clear hp he
            go_wp2_with fail
            have hp := HP.out
            have e := hp.cnorm
            subst e
            have hm2 := hp.clen 17
            refine ⟨⟨a3, c3, C ++ [x], k12, hp, hk12, by simp, by simp; omega, by rw [List.length_append]; exact HE.out⟩, ?_⟩
            rw [hm2, HM1.out]
            simp
            omega
    | true =>
      have he : patternP s.data.toList = (stepP s.data.toList (k + 1) L.length).bind fun x j => (stepsV s.data.toList (9 - (L.length + 1)) (L ++ [x]) j).bind (afterSteps s.data.toList) := by
        rw [HE.out]
        obtain ⟨m, hm⟩ : ∃ m, 9 - L.length = m + 1 := ⟨8 - L.length, by omega⟩
        rw [hm, stepsV, if_pos hb, show 9 - (L.length + 1) = m by omega]
        cases stepP s.data.toList (k + 1) L.length with
        | inl x => rfl
        | inr c => rfl
      clear HE
      have HE := Lib.hid he
      clear he
      go_wp2_with fail
      refine (pa_has_yes hb rfl hk hs HP.out.rd).mono ?_
      rintro e w3 ⟨rfl, hR3, hk3, h6⟩
      have hp := HP.out.call hR3 h6
      clear HP h6 hR3 hb y0 f0
      have y0 := hp.blk.cell 0
      have f0 := hp.blk.frozen 0
      simp at y0
      have HP := Lib.hid hp
      clear hp
      have hst0 := fun W hW => pa_step_any r s (k + 1) L.length hl8 hk3 hs W hW
      go_wp2_with fail
      cases hv : stepP s.data.toList (k + 1) L.length with
      | inr d =>
        have hst : ∀ W, PRd W r s (k + 1) → Calls Tryz.prog 252 #[.pointer (some ⟨r, 0, none⟩), .int .i64 (L.length : Int)] W fun e w' => PFault d e ∧ Chg (fun k => k = r) W w' := fun W hW => by
          have := hst0 W hW
          rw [hv] at this
          exact this
        have he := HE.out
        rw [hv] at he
        clear HE hv hst0
        have HST := Lib.hid hst
        have HE := Lib.hid he
        clear hst he
        refine wp_region_any (by kernel_rfl) ?_
        show wpAny _ _ _ _ _ _ _ w3.drew
        refine wpAny_take (i := 0) (v := .pointer (some ⟨g, 0, none⟩)) rfl (by kernel_rfl) (by kernel_rfl) (by kernel_rfl) (fun c a w h => h) (Or.inl ⟨by rfl, fun w => by go_simp⟩) ?_
        try simp only [Act.put, List.setIfInBounds_toArray, List.set_cons_zero, List.set_cons_succ]
        refine wpAny_take (i := 2) (v := .pointer (some ⟨r, 0, none⟩)) rfl (by kernel_rfl) (by kernel_rfl) (by kernel_rfl) (fun c a w h => h) (Or.inl ⟨by rfl, fun w => by go_simp⟩) ?_
        try simp only [Act.put, List.setIfInBounds_toArray, List.set_cons_zero, List.set_cons_succ]
        refine wpAny_take (i := 3) (v := .pointer (some ⟨g, 0, none⟩)) rfl (by kernel_rfl) (by kernel_rfl) (by kernel_rfl) (fun c a w h => h) (Or.inl ⟨by rfl, fun w => by go_simp⟩) ?_
        try simp only [Act.put, List.setIfInBounds_toArray, List.set_cons_zero, List.set_cons_succ]
        refine wpAny_ready (rs := [1, 4]) (by kernel_rfl) (by simp) ?_
        refine AllReady.cons rfl (fun K hK => ?_) (AllReady.cons rfl (fun K hK => ?_) AllReady.nil)
        · skip
          go_simp
          refine hK _ _ ?_
          clear hK K
          try simp only [Act.put, List.setIfInBounds_toArray, List.set_cons_zero, List.set_cons_succ]
          refine wpAny_ready (rs := [4]) (by kernel_rfl) (by simp) ?_
          refine AllReady.cons rfl (fun K hK => ?_) AllReady.nil
          go_simp
          refine hK _ _ ?_
          clear hK K
          try simp only [Act.put, List.setIfInBounds_toArray, List.set_cons_zero, List.set_cons_succ]
          refine wpAny_ready (rs := [5]) (by kernel_rfl) (by simp) ?_
          refine AllReady.cons rfl (fun K hK => ?_) AllReady.nil
          go_simp
          refine hK _ _ ?_
          clear hK K
          try simp only [Act.put, List.setIfInBounds_toArray, List.set_cons_zero, List.set_cons_succ]
          refine wpAny_ready (rs := [6]) (by kernel_rfl) (by simp) ?_
          refine AllReady.cons rfl (fun K hK => ?_) AllReady.nil
          go_simp
          refine (HST.out _ (by exact HP.out.rd)).mono ?_
          rintro e w8 ⟨⟨n, rfl⟩, h6⟩
          exact ⟨rfl, pat_no (HE.out.trans rfl) HP.out.chg.drew h6⟩
        · skip
          go_simp
          refine hK _ _ ?_
          clear hK K
          try simp only [Act.put, List.setIfInBounds_toArray, List.set_cons_zero, List.set_cons_succ]
          refine wpAny_ready (rs := [1, 5]) (by kernel_rfl) (by simp) ?_
          refine AllReady.cons rfl (fun K hK => ?_) (AllReady.cons rfl (fun K hK => ?_) AllReady.nil)
          · skip
            go_simp
            refine hK _ _ ?_
            clear hK K
            try simp only [Act.put, List.setIfInBounds_toArray, List.set_cons_zero, List.set_cons_succ]
            refine wpAny_ready (rs := [5]) (by kernel_rfl) (by simp) ?_
            refine AllReady.cons rfl (fun K hK => ?_) AllReady.nil
            go_simp
            refine hK _ _ ?_
            clear hK K
            try simp only [Act.put, List.setIfInBounds_toArray, List.set_cons_zero, List.set_cons_succ]
            refine wpAny_ready (rs := [6]) (by kernel_rfl) (by simp) ?_
            refine AllReady.cons rfl (fun K hK => ?_) AllReady.nil
            go_simp
            refine (HST.out _ (by exact HP.out.rd)).mono ?_
            rintro e w8 ⟨⟨n, rfl⟩, h6⟩
            exact ⟨rfl, pat_no (HE.out.trans rfl) HP.out.chg.drew h6⟩
          · skip
            go_simp
            refine hK _ _ ?_
            clear hK K
            try simp only [Act.put, List.setIfInBounds_toArray, List.set_cons_zero, List.set_cons_succ]
            refine wpAny_ready (rs := [1, 6]) (by kernel_rfl) (by simp) ?_
            refine AllReady.cons rfl (fun K hK => ?_) (AllReady.cons rfl (fun K hK => ?_) AllReady.nil)
            · skip
              go_simp
              refine hK _ _ ?_
              clear hK K
              try simp only [Act.put, List.setIfInBounds_toArray, List.set_cons_zero, List.set_cons_succ]
              refine wpAny_ready (rs := [6]) (by kernel_rfl) (by simp) ?_
              refine AllReady.cons rfl (fun K hK => ?_) AllReady.nil
              go_simp
              refine (HST.out _ (by exact HP.out.rd)).mono ?_
              rintro e w8 ⟨⟨n, rfl⟩, h6⟩
              exact ⟨rfl, pat_no (HE.out.trans rfl) HP.out.chg.drew h6⟩
            · skip
              go_simp
              refine (HST.out _ (by exact HP.out.rd)).mono ?_
              rintro e w8 ⟨⟨n, rfl⟩, h6⟩
              exact ⟨rfl, pat_no (HE.out.trans rfl) HP.out.chg.drew h6⟩
      | inl x =>
        obtain ⟨x, k4⟩ := x
        have hst : ∀ W, PRd W r s (k + 1) → Calls Tryz.prog 252 #[.pointer (some ⟨r, 0, none⟩), .int .i64 (L.length : Int)] W fun e w' => e = .returned (.agg #[bV x.kind, bV x.name, .bool x.no, .int .i64 x.min, .int .i64 x.max]) ∧ PRd w' r s k4 ∧ k4 ≤ s.size ∧ Chg (fun k => k = r) W w' := fun W hW => by
          have := hst0 W hW
          rw [hv] at this
          exact this
        have h8 : L.length ≠ 8 := fun e => by
          rw [e, stepP, if_pos rfl] at hv
          cases hv
        have he := HE.out
        rw [hv] at he
        have he : patternP s.data.toList = (stepsV s.data.toList (9 - (L ++ [x]).length) (L ++ [x]) k4).bind (afterSteps s.data.toList) := by rw [List.length_append]; exact he
        clear HE hv hst0
        have hgr := HP.out.ne
        have hgl := HP.out.blk.lt
        have hne := HP.out.sne
        have hll : L.length ≤ 1000000000 := by omega
        have HST := Lib.hid hst
        have HE := Lib.hid he
        have HNE := Lib.hid hne
        clear hst he hne
        go_region_law (first
          | (go_simp; go_at_call 252; refine (HST.out _ (by exact HP.out.rd)).mono ?_; rintro e w8 ⟨rfl, hR8, hk8, h8⟩; have c8 := px_chgd h8 hgr y0; have f8 := px_frod h8 hgr hgl f0; have g8 := Nat.lt_of_lt_of_le hgl h8.size; have H8 := Lib.hid h8; have HR8 := Lib.hid hR8; clear h8 hR8)
          | (refine step_lst_app pstepOk _ (by rfl) _ _ (by rfl) L (.slice a L.length c) x (by rfl) ((HP.out.steps8 H8.out).same ((Chg.refl _ _).alloc _)) _ (by rfl) hll (by show Blk _ _ 342 #[bV x.kind, bV x.name, .bool x.no, .int .i64 x.min, .int .i64 x.max]; repeat (first | with_reducible exact Blk.new _ _ _ | with_reducible refine Blk.drew ?_ | with_reducible refine Blk.alloc ?_ _)) ?_; intro v' w9 hO9 hc9 hb9; obtain ⟨a9, n9, p9, rfl⟩ := lst_sl pstepOk hO9; have c9 := px_chg hc9 HNE.out (px_alloc _ c8); have f9 := px_fro hc9 HNE.out (by simp; omega) (px_falloc _ g8 f8); have HO9 := Lib.hid hO9; have HC9 := Lib.hid hc9; have HB9 := Lib.hid hb9; clear hO9 hc9 hb9))
        all_goals
          have hm1 : lenAt wr g 0 9 = 9 - L.length := HM.out
          have HM1 := Lib.hid hm1
          clear hm1
          have hp := HP.out.put_step HR8.out H8.out HO9.out HC9.out HB9.out
          have e := hp.snorm
          subst e
          have hm2 := hp.slen 9
          have HPN := Lib.hid hp
          have HM2 := Lib.hid hm2
          clear hp hm2
          go_wp2_with fail
          refine ⟨⟨a9, p9, L ++ [x], k4, HPN.out, hk8, by simp, by simp; omega, HE.out⟩, ?_⟩
          rw [HM2.out, HM1.out]
          simp
          omega
end Go.Proofs.YtjloddlkleileaaGreatDoor
