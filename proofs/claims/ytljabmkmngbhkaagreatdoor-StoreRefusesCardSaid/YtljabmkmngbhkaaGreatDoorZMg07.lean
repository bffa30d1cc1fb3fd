/-
  The disk: what Create does.
  Sums over a map's entries, in whatever order they come. Plain lemmas.
  A map's iterator does not touch the tape itself. Plain lemmas.
  The disk: Used.
-/
import Derived.Test.YtljabmkmngbhkaaGreatDoorZMg06
import Derived.Test.YtljabmkmngbhkaaGreatDoorZMg02
import Derived.Laws.IdiomRangeMap
import Derived.Test.YtljabmkmngbhkaaGreatDoorZMg00
namespace Go.Proofs.YtljabmkmngbhkaaGreatDoor
open Go.RowKit
set_option linter.unusedVariables false
set_option linter.unusedSimpArgs false

theorem own_or {v' : Value} {o : Option Nat} {H B : Nat} (h : v'.ownBlock = o ∨ v'.ownBlock = some H) (hB : B ≤ H) : ∀ k, v'.ownBlock = some k → o = some k ∨ B ≤ k := fun k hk => by
  rcases h with e | e
  · exact .inl (by rw [← e]; exact hk)
  · rw [e] at hk; injection hk with hk; exact .inr (by omega)
section
variable (d bd bn : Nat) (n : ByteArray) (ids : List Nat) (D : DiskV) (y : Lay) (M : Nat → Prop) (W : World)

set_option maxRecDepth 100000 in
set_option maxHeartbeats 4000000 in
theorem act_create (hok : DiskOk D) (hq : D.queue.length ≤ 999999999) (hF : D.files.length ≤ 999999999) (hn : n.size ≤ 64) (h : DiskIn W d ids D y M) (hd : Blk W bd 36 #[.pointer (some ⟨d, 0, none⟩)]) (hnb : Blk W bn 9 #[.string n]) :
    Calls Tryz.prog 247 #[.pointer (some ⟨bd, 0, none⟩), .pointer (some ⟨bn, 0, none⟩)] W fun e W' => e = .returned (.tuple #[]) ∧ DPost W d ids M (createA n D) W' := by
  obtain ⟨i0, hi0, hz0, hz1, hz2⟩ := info_parts info_pfile
  have z0 := hd.cell 0
  have z1 := hnb.cell 0
  simp at z0 z1
  have hidn := h.files.idn
  have hids : ids.length ≤ 999999999 := by omega
  obtain ⟨fa, fc, hfv, _, _, _⟩ := h.files.own.reads
  have c1 := h.blk.cell 1
  have f1 := h.blk.frozen 1
  simp at c1
  rw [hfv] at c1
  have hdl := h.blk.lt
  have hbl := hd.lt
  have hbnl := hnb.lt
  have hfo : ∀ W1, Chg (fun _ => False) W W1 → Own W1 251 1 (.slice fa ids.length fc) ids.length (ids.map fun i => .pointer (some ⟨i, 0, none⟩)) := fun W1 hW1 => by
    rw [← hfv]; exact h.files.own.same hW1
  have hty : ∀ k, (Value.slice fa ids.length fc).ownBlock = some k → ∃ cs, Blk W k 251 cs := fun k hk => h.files.own.typed (by rw [hfv]; exact hk)
  have hnd : (Value.slice fa ids.length fc).ownBlock ≠ some d := fun e => by
    obtain ⟨cs, hb⟩ := hty d e
    exact hb.ne_ h.blk (by decide) rfl
  have hnbd : (Value.slice fa ids.length fc).ownBlock ≠ some bd := fun e => by
    obtain ⟨cs, hb⟩ := hty bd e
    exact hb.ne_ hd (by decide) rfl
  have hnbn : (Value.slice fa ids.length fc).ownBlock ≠ some bn := fun e => by
    obtain ⟨cs, hb⟩ := hty bn e
    exact hb.ne_ hnb (by decide) rfl
  have hbdd : bd ≠ d := hd.ne_ h.blk (by decide)
  have hbnd : bn ≠ d := hnb.ne_ h.blk (by decide)
  obtain ⟨W1, hW1⟩ : ∃ W1, W1 = W.alloc (.cells #[.slice none 0 0, .int .i64 0] 273) := ⟨_, rfl⟩
  have hc1 : Chg (fun _ => False) W W1 := by rw [hW1]; exact cgS
  have hnew : Blk W1 W.heap.size 273 #[.slice none 0 0, .int .i64 0] := by rw [hW1]; exact Blk.new W _ _
  have hs1 : W1.heap.size = W.heap.size + 1 := by rw [hW1]; simp
  have z0' := (hc1.cell (p := ⟨bd, 0, none⟩) hbl (by simp)).trans z0
  have z1' := (hc1.cell (p := ⟨bn, 0, none⟩) hbnl (by simp)).trans z1
  have c1' := (hc1.cell (p := ⟨d, 1, none⟩) hdl (by simp)).trans c1
  have f1' := (hc1.frozen (p := ⟨d, 1, none⟩) hdl (by simp)).trans f1
  have hdl1 : d < W1.heap.size := by omega
  have hbl1 : bd < W1.heap.size := by omega
  have H := Lib.hid h
  have HOK := Lib.hid hok
  have HFO := Lib.hid hfo
  have HTY := Lib.hid hty
  have HND := Lib.hid hnd
  have HNBD := Lib.hid hnbd
  have HNBN := Lib.hid hnbn
  have HFV := Lib.hid hfv
  have HC1 := Lib.hid hc1
  have HNEW := Lib.hid hnew
  have HS1 := Lib.hid hs1
  have HW1 := Lib.hid hW1
  have HIDN := Lib.hid hidn
  clear h hok hfo hty hnd hnbd hnbn hfv hc1 hnew hs1 hW1 hd hnb hidn z0 z1 c1 f1
  go_enter Tryz.func247, Tryz.ntmps247
  go_wp2_with fail
  rw [← HW1.out]
  go_region_law ((refine step_own_append _ (by rfl) _ _ _ _ (by rfl) 251 i0 (.pointer none) 1 8 Tryz.underlying88 hi0 hz0 hz1 hz2 rfl (.slice fa ids.length fc) ids.length _ (by rfl) (HFO.out _ (HC1.out.then cgS)) _ 1 [.pointer (some ⟨W.heap.size, 0, none⟩)] (by rfl) (Src.ofSlice _ Tryz.underlying88 ⟨W1.heap.size, 0, none⟩ 1 1 _ rfl (World.news_of_block (cs := #[.pointer (some ⟨W.heap.size, 0, none⟩)]) (t := 251) (fr := (0, 0)) (heap_alloc_new _ _)) (by simp [Value.oneCell'])) (by unfold maxLen; omega) (by omega) ?_; intro v' w4 hown4 hgrow hat; have fz4 : w4.frozen? ⟨d, 1, none⟩ = false := (hgrow.frozen_far ⟨d, 1, none⟩ (by simp; omega) (fun e => HND.out e.symm)).trans ((Chg.frozen (S := fun _ => False) (w := W1) cgS hdl1 (by simp)).trans f1'); have cz4 : w4.cell? ⟨d, 1, none⟩ = some (.slice fa ids.length fc) := (hgrow.cell_far ⟨d, 1, none⟩ (by simp; omega) (fun e => HND.out e.symm)).trans ((Chg.cell (S := fun _ => False) (w := W1) cgS hdl1 (by simp)).trans c1'); have bz4 : w4.cell? ⟨bd, 0, none⟩ = some (.pointer (some ⟨d, 0, none⟩)) := (hgrow.cell_far ⟨bd, 0, none⟩ (by simp; omega) (fun e => HNBD.out e.symm)).trans ((Chg.cell (S := fun _ => False) (w := W1) cgS hbl1 (by simp)).trans z0'); obtain ⟨va4, vc4, hv4, _, _, _⟩ := hown4.reads; subst hv4; have hc4 : Chg (fun k => (Value.slice fa ids.length fc).ownBlock = some k) W1 w4 := Chg.grown (w1 := _) cgS hgrow (fun k e _ => e); have hat2 : ∀ k, (Value.slice va4 (ids.length + 1) vc4).ownBlock = some k → (Value.slice fa ids.length fc).ownBlock = some k ∨ W1.heap.size ≤ k := own_or hat (by simp); have HO4 := Lib.hid hown4; have HC4 := Lib.hid hc4; have HAT := Lib.hid hat2; clear hown4 hgrow hat hc4 hat2))
  all_goals
    obtain ⟨w5, hw5⟩ : ∃ w5, w5 = w4.setCell ⟨d, 1, none⟩ (.slice va4 (ids.length + 1) vc4) := ⟨_, rfl⟩
    have hset : Chg (fun k => k = d) w4 w5 := by rw [hw5]; exact Chg.setOwn (Chg.refl _ _) _ _
    have hs4 := HC4.out.size
    have hs5 := hset.size
    have hs1 := HS1.out
    have hc : Chg (fun k => k = d ∨ (Value.slice fa ids.length fc).ownBlock = some k) W w5 := ((HC1.out.mono (by simp)).trans (HC4.out.mono fun k _ e => .inr e) (fun _ _ e => e)).trans hset (fun k _ e => .inl e)
    have hidn : (Value.slice fa ids.length fc).ownBlock ≠ some W.heap.size := fun e => by
      obtain ⟨cs, hb⟩ := HTY.out _ e
      have := hb.lt; omega
    have hnew5 := ((HNEW.out.chg HC4.out hidn).chg hset (by omega))
    have hown5 := HO4.out.chg hset (fun k hk e => by
      rcases HAT.out k hk with e' | e'
      · rw [e] at e'; exact HND.out e'
      · omega)
    have hblk5 : Blk w5 d 93 #[.int .i64 D.room, .slice va4 (ids.length + 1) vc4, .map (some y.nm), .map (some y.lm), y.qv, .int .i64 D.cutL, .int .i64 D.cutN, y.cv, .int .i64 D.fullL, .int .i64 0, .slice none 0 0, .bool D.off] := by
      have := ((H.out.blk.chg HC1.out (by simp)).chg HC4.out HND.out).set_ 1 (.slice va4 (ids.length + 1) vc4)
      rw [hw5]
      simpa using this
    have h5 := H.out.addFile (id := W.heap.size) HOK.out (Nat.le_refl _) hc (fun k _ e => by rw [HFV.out]; exact e) hnew5 hown5 (fun k hk => by
      rcases HAT.out k hk with e | e
      · exact .inl (by rw [HFV.out]; exact e)
      · exact .inr (by omega)) hblk5
    have hok5 : DiskOk { D with files := D.files ++ [⟨⟨#[]⟩, 0⟩] } := ⟨HOK.out.names.mono (by simp), HOK.out.lasts.mono (by simp), fun s hs => (HOK.out.queue s hs).mono (by simp), fun f hf => by
      rcases List.mem_append.1 hf with hf | hf
      · exact HOK.out.file f hf
      · simp at hf; subst hf; exact ⟨Nat.le_refl _, by simp [ByteArray.size]⟩, HOK.out.room, HOK.out.cutL, HOK.out.fullL, HOK.out.cutN, HOK.out.cutB⟩
    have zb5 : w5.cell? ⟨bd, 0, none⟩ = some (.pointer (some ⟨d, 0, none⟩)) := (hset.cell (p := ⟨bd, 0, none⟩) (show bd < w4.heap.size by omega) hbdd).trans bz4
    have zn5 : w5.cell? ⟨bn, 0, none⟩ = some (.string n) := (hset.cell (p := ⟨bn, 0, none⟩) (show bn < w4.heap.size by omega) hbnd).trans ((HC4.out.cell (p := ⟨bn, 0, none⟩) (show bn < W1.heap.size by omega) HNBN.out).trans z1')
    obtain ⟨w6, hw6⟩ : ∃ w6, w6 = w5.alloc (.cells #[.string n, .pointer (some ⟨W.heap.size, 0, none⟩)] 312) := ⟨_, rfl⟩
    have hc6 : Chg (fun _ => False) w5 w6 := by rw [hw6]; exact cgS
    have hnew6 : Blk w6 w5.heap.size 312 #[.string n, .pointer (some ⟨W.heap.size, 0, none⟩)] := by rw [hw6]; exact Blk.new w5 _ _
    have hs6 : w6.heap.size = w5.heap.size + 1 := by rw [hw6]; simp
    have hown6 := box_own (t := 0) (n := 1) (size := 2) hnew6 rfl (by decide)
    have hc5M : Chg M W w5 := hc.mono fun k hk e => by
      rcases e with e | e
      · rw [e]; exact H.out.mine _ (.inl rfl)
      · exact H.out.mine _ (.inr (.inl (.inr (.inl (by rw [HFV.out]; exact e)))))
    have hst : StepOk [(n, some D.files.length)] (D.files ++ [(⟨⟨#[]⟩, 0⟩ : FileV)]).length := fun c hc => by
      simp at hc; subst hc
      exact ⟨hn, fun i hi => by cases hi; simp⟩
    have h6 := (h5.same hc6).more (N := Mx M W w6) (fun k hk => by
      rcases hk with e | e
      · exact .inl e
      · exact .inr ⟨e.1, by omega⟩) (mx_lt H.out.lt (by omega))
    have hgd : (ids ++ [W.heap.size]).getD D.files.length 0 = W.heap.size := by
      rw [← HIDN.out, List.getD_eq_getElem?_getD, List.getElem?_append_right (Nat.le_refl _)]
      simp
    have hsc : stepCells (ids ++ [W.heap.size]) [(n, some D.files.length)] = [.string n, .pointer (some ⟨W.heap.size, 0, none⟩)] := by
      show [Value.string n, Value.pointer (some ⟨(ids ++ [W.heap.size]).getD D.files.length 0, 0, none⟩)] = _
      rw [hgd]
    have hren := disk_rename1 d (ids ++ [W.heap.size]) { D with files := D.files ++ [⟨⟨#[]⟩, 0⟩] } _ (Mx M W w6) [(n, some D.files.length)] (.slice (some ⟨w5.heap.size, 0, none⟩) 1 1) hok5 hst (by simpa using Nat.le_trans hq (by decide)) w6 h6 (by rw [hsc]; exact hown6) (fun k hk => by simp [Value.ownBlock] at hk; subst hk; exact .inr ⟨by omega, by omega⟩)
    have HREN := Lib.hid hren
    have HW6 := Lib.hid hw6
    have HC6 := Lib.hid (hc5M.then (hc6.mono (by simp)))
    have HLT := Lib.hid H.out.lt
    rw [← hw5]
    clear hset hc hidn hnew5 hown5 hblk5 h5 hok5 hw6 hc6 hnew6 hown6 hc5M hst h6 hgd hsc hren hw5 hs6 bz4 cz4 fz4 z0' z1' c1' f1'
    go_wp2_with fail
    rw [← HW6.out]
    refine HREN.out.mono ?_
    rintro e W2 ⟨rfl, hy, hc2⟩
    have HY := Lib.hid hy
    have HC2 := Lib.hid hc2
    clear hy hc2
    go_wp2_with fail
    first | go_end0 | refine bodyPost_ret (results_none rfl _ _ _) rfl ?_
    exact ⟨rfl, DPost.of_more HLT.out HC6.out (create_ok HOK.out hn) HY.out HC2.out (List.prefix_append _ _)⟩
end
end Go.Proofs.YtljabmkmngbhkaaGreatDoor
namespace Go.Proofs.YtljabmkmngbhkaaGreatDoor
open Go.RowKit
set_option linter.unusedVariables false
set_option linter.unusedSimpArgs false

/-- The sum of g over the entries that have been seen. -/
def seenG (g : MapEntry → Int) (seen : Array Nat) : List MapEntry → Int
  | [] => 0
  | e :: es => (if seen.contains e.born then g e else 0) + seenG g seen es
theorem seenG_none (g : MapEntry → Int) : ∀ es : List MapEntry, seenG g #[] es = 0
  | [] => rfl
  | e :: es => by simp [seenG, seenG_none g es]
theorem seenG_other (g : MapEntry → Int) (seen : Array Nat) (b : Nat) : ∀ es : List MapEntry, (∀ e ∈ es, e.born ≠ b) → seenG g (seen.push b) es = seenG g seen es
  | [], _ => rfl
  | e :: es, h => by
    have h1 := h e (by simp)
    unfold seenG
    rw [seenG_other g seen b es fun x hx => h x (by simp [hx])]
    simp [Array.contains_push, h1]
theorem seenG_push (g : MapEntry → Int) (seen : Array Nat) (e : MapEntry) (hs : seen.contains e.born = false) : ∀ es : List MapEntry, (es.Pairwise fun a b => a.born ≠ b.born) → e ∈ es → seenG g (seen.push e.born) es = seenG g seen es + g e
  | [], _, h => by cases h
  | x :: es, hp, h => by
    rw [List.pairwise_cons] at hp
    unfold seenG
    rcases List.mem_cons.1 h with rfl | h
    · rw [seenG_other g seen e.born es fun y hy => (hp.1 y hy).symm]
      have h1 : (seen.push e.born).contains e.born = true := by simp
      rw [h1, hs]
      simp
      omega
    · rw [seenG_push g seen e hs es hp.2 h]
      have := hp.1 e h
      simp [Array.contains_push, this]; omega
theorem seenG_full (g : MapEntry → Int) (seen : Array Nat) : ∀ es : List MapEntry, (∀ x ∈ es, seen.contains x.born = true) → seenG g seen es = (es.map g).sum
  | [], _ => rfl
  | e :: es, h => by
    unfold seenG
    rw [h e (by simp), seenG_full g seen es fun x hx => h x (by simp [hx])]
    simp
theorem seenG_le (g : MapEntry → Int) (B : Int) (seen : Array Nat) : ∀ es : List MapEntry, (∀ x ∈ es, 0 ≤ g x ∧ g x ≤ B) → 0 ≤ B → 0 ≤ seenG g seen es ∧ seenG g seen es ≤ B * es.length
  | [], _, _ => by simp [seenG]
  | e :: es, h, hB => by
    obtain ⟨a, b⟩ := seenG_le g B seen es (fun x hx => h x (by simp [hx])) hB
    obtain ⟨c, d⟩ := h e (by simp)
    unfold seenG
    rw [List.length_cons, Int.natCast_succ, Int.mul_add, Int.mul_one]
    split <;> omega
end Go.Proofs.YtljabmkmngbhkaaGreatDoor
namespace Go.Proofs.YtljabmkmngbhkaaGreatDoor
open Go.RowKit
set_option linter.unusedVariables false
set_option linter.unusedSimpArgs false

/-- Nothing but asking, and laying whole objects. -/
def Mild {α : Type} : Sem α → Prop
  | .pure _ => True
  | .getObj _ k => ∀ o, Mild (k o)
  | .setObj _ _ k => Mild k
  | .choose _ k => ∀ n, Mild (k n)
  | .mark _ k => Mild k
  | .halt _ => True
  | _ => False
theorem mild_bind {α β : Type} (f : α → Sem β) : ∀ (m : Sem α), Mild m → (∀ a, Mild (f a)) → Mild (m.bind f) := by
  intro m
  induction m with
  | pure a => intro _ hf; exact hf a
  | getObj r k ih => intro h hf o; exact ih o (h o) hf
  | setObj r o k ih => intro h hf; exact ih h hf
  | choose q k ih => intro h hf n; exact ih n (h n) hf
  | mark q k ih => intro h hf; exact ih h hf
  | halt e => intro _ _; exact trivial
  | load m a k ih => intro h; cases h
  | store m a v k ih => intro h; cases h
  | new o k ih => intro h; cases h
  | shape r k ih => intro h; cases h
  | freeze a n k ih => intro h; cases h
  | frozen a k ih => intro h; cases h
  | sys c k ih => intro h; cases h
  | program k ih => intro h; cases h
theorem mild_bind' {α β : Type} {m : Sem α} {f : α → Sem β} (h : Mild m) (hf : ∀ a, Mild (f a)) : Mild (m >>= f) := mild_bind f m h hf
theorem mild_tape {α : Type} (P : Program) : ∀ (m : Sem α), Mild m → ∀ (w : World) (a : α) (w' : World), m.run P w = .ok a w' → w'.tape = w.tape := by
  intro m
  induction m with
  | pure a => intro _ w b w' h; simp only [Sem.run] at h; cases h; rfl
  | getObj r k ih =>
    intro hm w b w' h
    simp only [Sem.run] at h
    split at h
    · cases h
    · exact ih _ (hm _) _ _ _ h
    · cases h
  | setObj r o k ih =>
    intro hm w b w' h
    simp only [Sem.run] at h
    split at h
    · cases h
    · exact (ih hm _ _ _ h).trans rfl
    · cases h
  | choose q k ih =>
    intro hm w b w' h
    simp only [Sem.run] at h
    split at h
    · exact ih _ (hm _) _ _ _ h
    · exact (ih _ (hm _) _ _ _ h).trans rfl
  | mark q k ih => intro hm w b w' h; simp only [Sem.run] at h; exact ih hm _ _ _ h
  | halt e => intro _ w b w' h; simp only [Sem.run] at h; cases h
  | load m a k ih => intro h; cases h
  | store m a v k ih => intro h; cases h
  | new o k ih => intro h; cases h
  | shape r k ih => intro h; cases h
  | freeze a n k ih => intro h; cases h
  | frozen a k ih => intro h; cases h
  | sys c k ih => intro h; cases h
  | program k ih => intro h; cases h
theorem next_mild (v : Value) (s : Bool) (ty : TypeId) : Mild (Instr.next v s ty) := by
  unfold Instr.next
  simp only []
  split
  · refine mild_bind' (fun o => trivial) fun o => ?_
    split
    · split
      · exact mild_bind' trivial fun _ => trivial
      · exact trivial
    · exact trivial
    · refine mild_bind' (fun o => trivial) fun o => ?_
      split
      · split
        · exact mild_bind' trivial fun _ => by
            refine mild_bind' (fun n => trivial) fun n => ?_
            split
            · exact mild_bind' trivial fun _ => trivial
            · exact trivial
            · exact trivial
        · refine mild_bind' (fun n => trivial) fun n => ?_
          split
          · exact mild_bind' trivial fun _ => trivial
          · exact trivial
          · exact trivial
      · exact trivial
    · exact trivial
  · exact trivial
end Go.Proofs.YtljabmkmngbhkaaGreatDoor
namespace Go.Proofs.YtljabmkmngbhkaaGreatDoor
open Go.RowKit
set_option linter.unusedVariables false
set_option linter.unusedSimpArgs false

/-- How many bytes the file at a pointer has. -/
def szV (ids : List Nat) (files : List FileV) : Value → Int
  | .pointer (some a) => match files[ids.idxOf a.block]? with | some f => f.data.size | none => 0
  | _ => 0
theorem idxOf_get {ids : List Nat} (hn : ids.Pairwise fun a b => a ≠ b) {i : Nat} (hi : i < ids.length) : ids.idxOf (ids.getD i 0) = i := by
  rw [List.getD_eq_getElem?_getD, List.getElem?_eq_getElem hi]
  exact List.Nodup.idxOf_getElem hn i hi
theorem szV_fptr {ids : List Nat} {files : List FileV} (hn : ids.Pairwise fun a b => a ≠ b) (hl : ids.length = files.length) {i : Nat} (hi : i < files.length) : szV ids files (fptr ids i) = files[i].data.size := by
  unfold szV fptr
  simp only
  rw [idxOf_get hn (by omega), List.getElem?_eq_getElem hi]
theorem perm_map_sum {α : Type} (g : α → Int) {l m : List α} (h : l.Perm m) : (l.map g).sum = (m.map g).sum := by
  induction h with
  | nil => rfl
  | cons x _ ih => simp [ih]
  | swap x y l => simp; omega
  | trans _ _ h1 h2 => rw [h1, h2]
theorem used_sum {P : Program} {k : TypeId} {es : Array MapEntry} {clock : Nat} {f : Value → Option Value} {ids : List Nat} {D : DiskV} (hs : Says P k es clock f) (ht : NTells f ids D.names) (hok : NamesOk D.names D.files.length) (hn : ids.Pairwise fun a b => a ≠ b) (hl : ids.length = D.files.length) :
    (es.toList.map fun e => szV ids D.files e.val).sum = usedD D := by
  have hp : (es.toList.map fun e => (e.key, e.val)).Perm (D.names.map fun p => (Value.string p.1, fptr ids p.2)) := by
    rw [List.perm_ext_iff_of_nodup]
    · rintro ⟨k, v⟩
      simp only [List.mem_map, Prod.mk.injEq]
      constructor
      · rintro ⟨e, he, rfl, rfl⟩
        obtain ⟨p, hp, e1, e2⟩ := (ht _ _).1 ((hs.says e.key e.val).2 ⟨e, he, rfl, rfl⟩)
        exact ⟨p, hp, e1.symm, e2.symm⟩
      · rintro ⟨p, hp, rfl, rfl⟩
        obtain ⟨e, he, e1, e2⟩ := (hs.says _ _).1 ((ht (.string p.1) (fptr ids p.2)).2 ⟨p, hp, rfl, rfl⟩)
        exact ⟨e, he, e1, e2⟩
    · refine (List.pairwise_map).2 (hs.apart.imp fun {a b} h e => h ?_)
      exact (Prod.mk.inj e).1
    · refine (List.pairwise_map).2 (hok.one.imp fun {a b} h e => h ?_)
      have := (Prod.mk.inj e).1
      injection this
  have h1 := perm_map_sum (fun q : Value × Value => szV ids D.files q.2) hp
  rw [List.map_map, List.map_map] at h1
  unfold usedD
  refine Eq.trans ?_ (h1.trans ?_)
  · rfl
  · congr 1
    apply List.map_congr_left
    intro p hp
    have hi := hok.lt p hp
    show szV ids D.files (fptr ids p.2) = sizeOfN D.files p
    rw [szV_fptr hn hl hi]
    unfold sizeOfN
    rw [List.getElem?_eq_getElem hi]

set_option maxRecDepth 1000000 in
set_option maxHeartbeats 2000000 in
theorem disk_used (d : Nat) (ids : List Nat) (D : DiskV) (M : Nat → Prop) (w : World) (h : DiskAt w d ids D M) (hN : D.names.length ≤ 1000000) :
    Calls Tryz.prog 171 #[.pointer (some ⟨d, 0, none⟩)] w fun e w' => e = .returned (.int .i64 (usedD D)) ∧ Chg (fun _ => False) w w' := by
  obtain ⟨hok, y, h⟩ := h
  obtain ⟨n, f, ⟨es, clock, hb, hsz, hs⟩, ht, hn⟩ := h.names
  have hsum := used_sum hs ht hok.names h.files.idd h.files.idn
  have hgb : ∀ x ∈ es.toList, 0 ≤ szV ids D.files x.val ∧ szV ids D.files x.val ≤ 1048576 := fun x hx => by
    obtain ⟨p, hp, e1, e2⟩ := (ht _ _).1 ((hs.says x.key x.val).2 ⟨x, hx, rfl, rfl⟩)
    have hi := hok.names.lt p hp
    rw [e2, szV_fptr h.files.idd h.files.idn hi]
    have := (hok.file _ (List.getElem_mem hi)).2
    omega
  have hes : (es.toList.length : Int) ≤ 1000000 := by simp; omega
  have hle := fun seen => seenG_le (fun e => szV ids D.files e.val) 1048576 seen es.toList hgb (by decide)
  have hborn : (es.toList.map (·.born)).Nodup := List.pairwise_map.2 hs.ages
  have hrg := run_range_map (P := Tryz.prog) w 87 9 251 y.nm es clock Tryz.underlying87 hb
  have c2 := h.blk.cell 2
  simp at c2
  have hfile : ∀ e ∈ es.toList, ∃ id v vc sz, e.val = .pointer (some ⟨id, 0, none⟩) ∧ id < w.heap.size ∧ w.cell? ⟨id, 0, none⟩ = some (.slice v sz vc) ∧ szV ids D.files e.val = (sz : Int) ∧ (sz : Int) ≤ 1048576 := fun e he => by
    obtain ⟨p, hp, e1, e2⟩ := (ht _ _).1 ((hs.says e.key e.val).2 ⟨e, he, rfl, rfl⟩)
    have hi := hok.names.lt p hp
    obtain ⟨id, v, g1, g2, hb', ho⟩ := h.files.at_ hi
    obtain ⟨va, vc, hv, _, _, _⟩ := ho.reads
    refine ⟨id, va, vc, D.files[p.2].data.size, ?_, hb'.lt, ?_, ?_, ?_⟩
    · rw [e2]; unfold fptr; rw [List.getD_eq_getElem?_getD, g1]; rfl
    · have := hb'.cell 0
      rw [hv] at this
      simpa using this
    · rw [e2, szV_fptr h.files.idd h.files.idn hi]
    · have := (hok.file _ (List.getElem_mem hi)).2; omega
  have HB := Lib.hid hb
  have HS := Lib.hid hs
  have HLE := Lib.hid hle
  have HBORN := Lib.hid hborn
  have HFILE := Lib.hid hfile
  have HSUM := Lib.hid hsum
  have hmax : ∀ seen, 0 ≤ seenG (fun e => szV ids D.files e.val) seen es.toList ∧ seenG (fun e => szV ids D.files e.val) seen es.toList ≤ 1048576000000 := fun seen => by
    have := hle seen
    omega
  have HMAX := Lib.hid hmax
  clear hb hsz hs ht hn hok h hle hborn hfile hgb hsum hmax
  go_enter Tryz.func171, Tryz.ntmps171
  go_wp2_with fail
  go_loopw [3] (fun s w' => ∃ (w1 : World) (seen : Array Nat), w1.Alike w ∧ w1.tape = w.tape ∧ w' = w1.alloc (.mapIter (some y.nm) clock seen clock) ∧ s = .int .i64 (seenG (fun e => szV ids D.files e.val) seen es.toList)) (fun _ w' => (leftOf es (w'.iterSeen w.heap.size)).size)
  case atStart => exact ⟨w, #[], ⟨rfl, rfl, rfl⟩, rfl, rfl, by rw [seenG_none]⟩
  case round =>
    obtain ⟨w1, seen, hal, htp, rfl, rfl⟩ := hrel
    have hsz : w1.heap.size = w.heap.size := by rw [hal.1]
    have hb1 : w1.heap[y.nm]? = some (.map es clock) := by rw [hal.1]; exact HB.out
    have law := run_next_map (P := Tryz.prog) w1 0 y.nm clock clock seen es clock hb1 HS.out.born (Nat.le_refl _)
    rw [hsz] at law
    rcases law with ⟨h0, hrun⟩ | ⟨e, he, w2, hal2, hrun⟩
    · have hnx : ∀ ty, (Instr.next (.pointer (some ⟨w.heap.size, 0, none⟩)) false ty).run Tryz.prog (w1.alloc (.mapIter (some y.nm) clock seen clock)) = _ := fun _ => hrun
      have hall := seenG_full (fun e => szV ids D.files e.val) seen es.toList (all_seen es seen h0)
      rw [HSUM.out] at hall
      have HALL := Lib.hid hall
      have hcw : Chg (fun _ => False) w w1 := ⟨hal.2.1, htp, hal.2.2, by rw [hsz]; exact Nat.le_refl _, fun k _ _ => by rw [hal.1]⟩
      have HCW := Lib.hid (hcw.alloc (.mapIter (some y.nm) clock seen clock))
      clear hal hsz hb1 h0 hrun hall htp hcw
      go_wp2_with fail
      go_ret
      exact ⟨by rw [HALL.out]; rfl, HCW.out⟩
    · obtain ⟨id, va, vc, sz, hval, hidl, hcell, hg, hszb⟩ := HFILE.out e (mem_left he).1
      rw [hval] at hrun
      have htp2 : w2.tape = w.tape := (mild_tape Tryz.prog _ (next_mild _ _ _) _ _ _ hrun).trans htp
      have hnx : ∀ ty, (Instr.next (.pointer (some ⟨w.heap.size, 0, none⟩)) false ty).run Tryz.prog (w1.alloc (.mapIter (some y.nm) clock seen clock)) = _ := fun ty => hrun
      have hsz2 : w2.heap.size = w.heap.size := by rw [hal2.1, hal.1]
      have hb2 : w2.heap[y.nm]? = some (.map es clock) := by rw [hal2.1]; exact hb1
      have hen := run_entry_map (P := Tryz.prog) w2 y.nm clock seen es clock e hb2 (mem_left he).1 HBORN.out
      rw [hsz2, hval] at hen
      have hcell2 : (w2.alloc (.mapIter (some y.nm) clock (seen.push e.born) clock)).cell? ⟨id, 0, none⟩ = some (.slice va sz vc) := by
        rw [World.cell?_alloc_lt _ _ _ (by rw [hsz2]; exact hidl)]
        have : w2.heap = w.heap := hal2.1.trans hal.1
        rw [← hcell]
        unfold World.cell?
        rw [this]
      have hpush := seenG_push (fun e => szV ids D.files e.val) seen e (mem_left he).2 es.toList HS.out.ages (mem_left he).1
      simp only [hg] at hpush
      have hm := HMAX.out seen
      have hrel2 : ∃ (w3 : World) (seen3 : Array Nat), w3.Alike w ∧ w3.tape = w.tape ∧ w2.alloc (.mapIter (some y.nm) clock (seen.push e.born) clock) = w3.alloc (.mapIter (some y.nm) clock seen3 clock) ∧ Value.int .i64 (seenG (fun e => szV ids D.files e.val) seen es.toList + sz) = .int .i64 (seenG (fun e => szV ids D.files e.val) seen3 es.toList) :=
        ⟨w2, seen.push e.born, ⟨hal2.1.trans hal.1, hal2.2.1.trans hal.2.1, hal2.2.2.trans hal.2.2⟩, htp2, rfl, by rw [hpush]⟩
      have hmeas : (leftOf es ((w2.alloc (.mapIter (some y.nm) clock (seen.push e.born) clock)).iterSeen w.heap.size)).size < (leftOf es ((w1.alloc (.mapIter (some y.nm) clock seen clock)).iterSeen w.heap.size)).size := by
        rw [← hsz2, World.iterSeen_alloc, hsz2, ← hsz, World.iterSeen_alloc]
        exact left_shrinks es seen e he
      have HREL := Lib.hid hrel2
      have HMEAS := Lib.hid hmeas
      generalize hsg : seenG (fun e => szV ids D.files e.val) seen es.toList = sg at *
      obtain ⟨hm0, hm1⟩ := hm
      clear hsg hrel2 hmeas hpush hrun htp htp2 hb1 hb2 hal hal2 hg hval hcell hsz2 hsz he
      go_wp2_with fail
      exact ⟨HREL.out, HMEAS.out⟩
end Go.Proofs.YtljabmkmngbhkaaGreatDoor
