/-
  The disk: what Create does.
  Sums over a map's entries, in whatever order they come. Plain lemmas.
-/
import Derived.Test.YtjfbcjmnjlehaaaGreatDoorZMg07
import Derived.Test.YtjfbcjmnjlehaaaGreatDoorZMg04
import Derived.Laws.IdiomRangeMap
namespace Go.Proofs.YtjfbcjmnjlehaaaGreatDoor
open Go.RowKit
set_option linter.unusedVariables false
set_option linter.unusedSimpArgs false

theorem own_or {v' : Value} {o : Option Nat} {H B : Nat} (h : v'.ownBlock = o ∨ v'.ownBlock = some H) (hB : B ≤ H) : ∀ k, v'.ownBlock = some k → o = some k ∨ B ≤ k := fun k hk => by
  rcases h with e | e
  · exact .inl (by rw [← e]; exact hk)
  · rw [e] at hk; injection hk with hk; exact .inr (by omega)
section
variable (d bd bn : Nat) (n : ByteArray) (ids : List Nat) (D : DiskV) (y : Lay) (M : Nat → Prop) (W : World)

set_option maxRecDepth 100000 in
set_option maxHeartbeats 4000000 in
theorem act_create (hok : DiskOk D) (hq : D.queue.length ≤ 999999999) (hF : D.files.length ≤ 999999999) (hn : n.size ≤ 64) (h : DiskIn W d ids D y M) (hd : Blk W bd 29 #[.pointer (some ⟨d, 0, none⟩)]) (hnb : Blk W bn 9 #[.string n]) :
    Calls Tryz.prog 91 #[.pointer (some ⟨bd, 0, none⟩), .pointer (some ⟨bn, 0, none⟩)] W fun e W' => e = .returned (.tuple #[]) ∧ DPost W d ids M (createA n D) W' := by
  obtain ⟨i0, hi0, hz0, hz1, hz2⟩ := info_parts info_pfile
  have z0 := hd.cell 0
  have z1 := hnb.cell 0
  simp at z0 z1
  have hidn := h.files.idn
  have hids : ids.length ≤ 999999999 := by omega
  obtain ⟨fa, fc, hfv, _, _, _⟩ := h.files.own.reads
  have c1 := h.blk.cell 1
  have f1 := h.blk.frozen 1
  simp at c1
  rw [hfv] at c1
  have hdl := h.blk.lt
  have hbl := hd.lt
  have hbnl := hnb.lt
  have hfo : ∀ W1, Chg (fun _ => False) W W1 → Own W1 126 1 (.slice fa ids.length fc) ids.length (ids.map fun i => .pointer (some ⟨i, 0, none⟩)) := fun W1 hW1 => by
    rw [← hfv]; exact h.files.own.same hW1
  have hty : ∀ k, (Value.slice fa ids.length fc).ownBlock = some k → ∃ cs, Blk W k 126 cs := fun k hk => h.files.own.typed (by rw [hfv]; exact hk)
  have hnd : (Value.slice fa ids.length fc).ownBlock ≠ some d := fun e => by
    obtain ⟨cs, hb⟩ := hty d e
    exact hb.ne_ h.blk (by decide) rfl
  have hnbd : (Value.slice fa ids.length fc).ownBlock ≠ some bd := fun e => by
    obtain ⟨cs, hb⟩ := hty bd e
    exact hb.ne_ hd (by decide) rfl
  have hnbn : (Value.slice fa ids.length fc).ownBlock ≠ some bn := fun e => by
    obtain ⟨cs, hb⟩ := hty bn e
    exact hb.ne_ hnb (by decide) rfl
  have hbdd : bd ≠ d := hd.ne_ h.blk (by decide)
  have hbnd : bn ≠ d := hnb.ne_ h.blk (by decide)
  obtain ⟨W1, hW1⟩ : ∃ W1, W1 = W.alloc (.cells #[.slice none 0 0, .int .i64 0] 132) := ⟨_, rfl⟩
  have hc1 : Chg (fun _ => False) W W1 := by rw [hW1]; ((repeat (first | exact Chg.refl _ _ | assumption | refine Chg.drewN ?_ _ | refine Chg.drew ?_ | refine Chg.alloc ?_ _ | refine Chg.setCell ?_ (by first | (simp; done) | (simp; omega) | (intro h; simp at h; omega)) _)))
  have hnew : Blk W1 W.heap.size 132 #[.slice none 0 0, .int .i64 0] := by rw [hW1]; exact Blk.new W _ _
  have hs1 : W1.heap.size = W.heap.size + 1 := by rw [hW1]; simp
  have z0' := (hc1.cell (p := ⟨bd, 0, none⟩) hbl (by simp)).trans z0
  have z1' := (hc1.cell (p := ⟨bn, 0, none⟩) hbnl (by simp)).trans z1
  have c1' := (hc1.cell (p := ⟨d, 1, none⟩) hdl (by simp)).trans c1
  have f1' := (hc1.frozen (p := ⟨d, 1, none⟩) hdl (by simp)).trans f1
  have hdl1 : d < W1.heap.size := by omega
  have hbl1 : bd < W1.heap.size := by omega
  have H := Lib.hid h
  have HOK := Lib.hid hok
  have HFO := Lib.hid hfo
  have HTY := Lib.hid hty
  have HND := Lib.hid hnd
  have HNBD := Lib.hid hnbd
  have HNBN := Lib.hid hnbn
  have HFV := Lib.hid hfv
  have HC1 := Lib.hid hc1
  have HNEW := Lib.hid hnew
  have HS1 := Lib.hid hs1
  have HW1 := Lib.hid hW1
  have HIDN := Lib.hid hidn
  clear h hok hfo hty hnd hnbd hnbn hfv hc1 hnew hs1 hW1 hd hnb hidn z0 z1 c1 f1
  go_enter Tryz.func91, Tryz.ntmps91
  go_wp2_with fail
  rw [← HW1.out]
  go_region_law ((refine step_own_append _ (by rfl) _ _ _ _ (by rfl) 126 i0 (.pointer none) 1 8 Tryz.underlying62 hi0 hz0 hz1 hz2 rfl (.slice fa ids.length fc) ids.length _ (by rfl) (HFO.out _ (HC1.out.then (by ((repeat (first | exact Chg.refl _ _ | assumption | refine Chg.drewN ?_ _ | refine Chg.drew ?_ | refine Chg.alloc ?_ _ | refine Chg.setCell ?_ (by first | (simp; done) | (simp; omega) | (intro h; simp at h; omega)) _)))))) _ 1 [.pointer (some ⟨W.heap.size, 0, none⟩)] (by rfl) (Src.ofSlice _ Tryz.underlying62 ⟨W1.heap.size, 0, none⟩ 1 1 _ rfl (World.news_of_block (cs := #[.pointer (some ⟨W.heap.size, 0, none⟩)]) (t := 126) (fr := (0, 0)) (heap_alloc_new _ _)) (by simp [Value.oneCell'])) (by unfold maxLen; omega) (by omega) ?_; intro v' w4 hown4 hgrow hat; have fz4 : w4.frozen? ⟨d, 1, none⟩ = false := (hgrow.frozen_far ⟨d, 1, none⟩ (by simp; omega) (fun e => HND.out e.symm)).trans ((Chg.frozen (S := fun _ => False) (w := W1) (by ((repeat (first | exact Chg.refl _ _ | assumption | refine Chg.drewN ?_ _ | refine Chg.drew ?_ | refine Chg.alloc ?_ _ | refine Chg.setCell ?_ (by first | (simp; done) | (simp; omega) | (intro h; simp at h; omega)) _)))) hdl1 (by simp)).trans f1'); have cz4 : w4.cell? ⟨d, 1, none⟩ = some (.slice fa ids.length fc) := (hgrow.cell_far ⟨d, 1, none⟩ (by simp; omega) (fun e => HND.out e.symm)).trans ((Chg.cell (S := fun _ => False) (w := W1) (by ((repeat (first | exact Chg.refl _ _ | assumption | refine Chg.drewN ?_ _ | refine Chg.drew ?_ | refine Chg.alloc ?_ _ | refine Chg.setCell ?_ (by first | (simp; done) | (simp; omega) | (intro h; simp at h; omega)) _)))) hdl1 (by simp)).trans c1'); have bz4 : w4.cell? ⟨bd, 0, none⟩ = some (.pointer (some ⟨d, 0, none⟩)) := (hgrow.cell_far ⟨bd, 0, none⟩ (by simp; omega) (fun e => HNBD.out e.symm)).trans ((Chg.cell (S := fun _ => False) (w := W1) (by ((repeat (first | exact Chg.refl _ _ | assumption | refine Chg.drewN ?_ _ | refine Chg.drew ?_ | refine Chg.alloc ?_ _ | refine Chg.setCell ?_ (by first | (simp; done) | (simp; omega) | (intro h; simp at h; omega)) _)))) hbl1 (by simp)).trans z0'); obtain ⟨va4, vc4, hv4, _, _, _⟩ := hown4.reads; subst hv4; have hc4 : Chg (fun k => (Value.slice fa ids.length fc).ownBlock = some k) W1 w4 := Chg.grown (w1 := _) (by ((repeat (first | exact Chg.refl _ _ | assumption | refine Chg.drewN ?_ _ | refine Chg.drew ?_ | refine Chg.alloc ?_ _ | refine Chg.setCell ?_ (by first | (simp; done) | (simp; omega) | (intro h; simp at h; omega)) _)))) hgrow (fun k e _ => e); have hat2 : ∀ k, (Value.slice va4 (ids.length + 1) vc4).ownBlock = some k → (Value.slice fa ids.length fc).ownBlock = some k ∨ W1.heap.size ≤ k := own_or hat (by simp); have HO4 := Lib.hid hown4; have HC4 := Lib.hid hc4; have HAT := Lib.hid hat2; clear hown4 hgrow hat hc4 hat2))
  all_goals
    obtain ⟨w5, hw5⟩ : ∃ w5, w5 = w4.setCell ⟨d, 1, none⟩ (.slice va4 (ids.length + 1) vc4) := ⟨_, rfl⟩
    have hset : Chg (fun k => k = d) w4 w5 := by rw [hw5]; exact Chg.setOwn (Chg.refl _ _) _ _
    have hs4 := HC4.out.size
    have hs5 := hset.size
    have hs1 := HS1.out
    have hc : Chg (fun k => k = d ∨ (Value.slice fa ids.length fc).ownBlock = some k) W w5 := ((HC1.out.mono (by simp)).trans (HC4.out.mono fun k _ e => .inr e) (fun _ _ e => e)).trans hset (fun k _ e => .inl e)
    have hidn : (Value.slice fa ids.length fc).ownBlock ≠ some W.heap.size := fun e => by
      obtain ⟨cs, hb⟩ := HTY.out _ e
      have := hb.lt; omega
    have hnew5 := ((HNEW.out.chg HC4.out hidn).chg hset (by omega))
    have hown5 := HO4.out.chg hset (fun k hk e => by
      rcases HAT.out k hk with e' | e'
      · rw [e] at e'; exact HND.out e'
      · omega)
    have hblk5 : Blk w5 d 67 #[.int .i64 D.room, .slice va4 (ids.length + 1) vc4, .map (some y.nm), .map (some y.lm), y.qv, .int .i64 D.cutL, .int .i64 D.cutN, y.cv, .int .i64 D.fullL, .int .i64 0, .slice none 0 0, .bool D.off] := by
      have := ((H.out.blk.chg HC1.out (by simp)).chg HC4.out HND.out).set_ 1 (.slice va4 (ids.length + 1) vc4)
      rw [hw5]
      simpa using this
    have h5 := H.out.addFile (id := W.heap.size) HOK.out (Nat.le_refl _) hc (fun k _ e => by rw [HFV.out]; exact e) hnew5 hown5 (fun k hk => by
      rcases HAT.out k hk with e | e
      · exact .inl (by rw [HFV.out]; exact e)
      · exact .inr (by omega)) hblk5
    have hok5 : DiskOk { D with files := D.files ++ [⟨⟨#[]⟩, 0⟩] } := ⟨HOK.out.names.mono (by simp), HOK.out.lasts.mono (by simp), fun s hs => (HOK.out.queue s hs).mono (by simp), fun f hf => by
      rcases List.mem_append.1 hf with hf | hf
      · exact HOK.out.file f hf
      · simp at hf; subst hf; exact ⟨Nat.le_refl _, by simp [ByteArray.size]⟩, HOK.out.room, HOK.out.cutL, HOK.out.fullL, HOK.out.cutN, HOK.out.cutB⟩
    have zb5 : w5.cell? ⟨bd, 0, none⟩ = some (.pointer (some ⟨d, 0, none⟩)) := (hset.cell (p := ⟨bd, 0, none⟩) (show bd < w4.heap.size by omega) hbdd).trans bz4
    have zn5 : w5.cell? ⟨bn, 0, none⟩ = some (.string n) := (hset.cell (p := ⟨bn, 0, none⟩) (show bn < w4.heap.size by omega) hbnd).trans ((HC4.out.cell (p := ⟨bn, 0, none⟩) (show bn < W1.heap.size by omega) HNBN.out).trans z1')
    obtain ⟨w6, hw6⟩ : ∃ w6, w6 = w5.alloc (.cells #[.string n, .pointer (some ⟨W.heap.size, 0, none⟩)] 135) := ⟨_, rfl⟩
    have hc6 : Chg (fun _ => False) w5 w6 := by rw [hw6]; ((repeat (first | exact Chg.refl _ _ | assumption | refine Chg.drewN ?_ _ | refine Chg.drew ?_ | refine Chg.alloc ?_ _ | refine Chg.setCell ?_ (by first | (simp; done) | (simp; omega) | (intro h; simp at h; omega)) _)))
    have hnew6 : Blk w6 w5.heap.size 135 #[.string n, .pointer (some ⟨W.heap.size, 0, none⟩)] := by rw [hw6]; exact Blk.new w5 _ _
    have hs6 : w6.heap.size = w5.heap.size + 1 := by rw [hw6]; simp
    have hown6 := box_own (t := 0) (n := 1) (size := 2) hnew6 rfl (by decide)
    have hc5M : Chg M W w5 := hc.mono fun k hk e => by
      rcases e with e | e
      · rw [e]; exact H.out.mine _ (.inl rfl)
      · exact H.out.mine _ (.inr (.inl (.inr (.inl (by rw [HFV.out]; exact e)))))
    have hst : StepOk [(n, some D.files.length)] (D.files ++ [(⟨⟨#[]⟩, 0⟩ : FileV)]).length := fun c hc => by
      simp at hc; subst hc
      exact ⟨hn, fun i hi => by cases hi; simp⟩
    have h6 := (h5.same hc6).more (N := Mx M W w6) (fun k hk => by
      rcases hk with e | e
      · exact .inl e
      · exact .inr ⟨e.1, by omega⟩) (mx_lt H.out.lt (by omega))
    have hgd : (ids ++ [W.heap.size]).getD D.files.length 0 = W.heap.size := by
      rw [← HIDN.out, List.getD_eq_getElem?_getD, List.getElem?_append_right (Nat.le_refl _)]
      simp
    have hsc : stepCells (ids ++ [W.heap.size]) [(n, some D.files.length)] = [.string n, .pointer (some ⟨W.heap.size, 0, none⟩)] := by
      show [Value.string n, Value.pointer (some ⟨(ids ++ [W.heap.size]).getD D.files.length 0, 0, none⟩)] = _
      rw [hgd]
    have hren := disk_rename1 d (ids ++ [W.heap.size]) { D with files := D.files ++ [⟨⟨#[]⟩, 0⟩] } _ (Mx M W w6) [(n, some D.files.length)] (.slice (some ⟨w5.heap.size, 0, none⟩) 1 1) hok5 hst (by simpa using Nat.le_trans hq (by decide)) w6 h6 (by rw [hsc]; exact hown6) (fun k hk => by simp [Value.ownBlock] at hk; subst hk; exact .inr ⟨by omega, by omega⟩)
    have HREN := Lib.hid hren
    have HW6 := Lib.hid hw6
    have HC6 := Lib.hid (hc5M.then (hc6.mono (by simp)))
    have HLT := Lib.hid H.out.lt
    rw [← hw5]
    clear hset hc hidn hnew5 hown5 hblk5 h5 hok5 hw6 hc6 hnew6 hown6 hc5M hst h6 hgd hsc hren hw5 hs6 bz4 cz4 fz4 z0' z1' c1' f1'
    go_wp2_with fail
    rw [← HW6.out]
    refine HREN.out.mono ?_
    rintro e W2 ⟨rfl, hy, hc2⟩
    have HY := Lib.hid hy
    have HC2 := Lib.hid hc2
    clear hy hc2
    go_wp2_with fail
    first | go_end0 | refine bodyPost_ret (results_none rfl _ _ _) rfl ?_
    exact ⟨rfl, DPost.of_more HLT.out HC6.out (create_ok HOK.out hn) HY.out HC2.out (List.prefix_append _ _)⟩
end
end Go.Proofs.YtjfbcjmnjlehaaaGreatDoor
namespace Go.Proofs.YtjfbcjmnjlehaaaGreatDoor
open Go.RowKit
set_option linter.unusedVariables false
set_option linter.unusedSimpArgs false

/-- The sum of g over the entries that have been seen. -/
def seenG (g : MapEntry → Int) (seen : Array Nat) : List MapEntry → Int
  | [] => 0
  | e :: es => (if seen.contains e.born then g e else 0) + seenG g seen es
theorem seenG_none (g : MapEntry → Int) : ∀ es : List MapEntry, seenG g #[] es = 0
  | [] => rfl
  | e :: es => by simp [seenG, seenG_none g es]
theorem seenG_other (g : MapEntry → Int) (seen : Array Nat) (b : Nat) : ∀ es : List MapEntry, (∀ e ∈ es, e.born ≠ b) → seenG g (seen.push b) es = seenG g seen es
  | [], _ => rfl
  | e :: es, h => by
    have h1 := h e (by simp)
    unfold seenG
    rw [seenG_other g seen b es fun x hx => h x (by simp [hx])]
    simp [Array.contains_push, h1]
theorem seenG_push (g : MapEntry → Int) (seen : Array Nat) (e : MapEntry) (hs : seen.contains e.born = false) : ∀ es : List MapEntry, (es.Pairwise fun a b => a.born ≠ b.born) → e ∈ es → seenG g (seen.push e.born) es = seenG g seen es + g e
  | [], _, h => by cases h
  | x :: es, hp, h => by
    rw [List.pairwise_cons] at hp
    unfold seenG
    rcases List.mem_cons.1 h with rfl | h
    · rw [seenG_other g seen e.born es fun y hy => (hp.1 y hy).symm]
      have h1 : (seen.push e.born).contains e.born = true := by simp
      rw [h1, hs]
      simp
      omega
    · rw [seenG_push g seen e hs es hp.2 h]
      have := hp.1 e h
      simp [Array.contains_push, this]; omega
theorem seenG_full (g : MapEntry → Int) (seen : Array Nat) : ∀ es : List MapEntry, (∀ x ∈ es, seen.contains x.born = true) → seenG g seen es = (es.map g).sum
  | [], _ => rfl
  | e :: es, h => by
    unfold seenG
    rw [h e (by simp), seenG_full g seen es fun x hx => h x (by simp [hx])]
    simp
theorem seenG_le (g : MapEntry → Int) (B : Int) (seen : Array Nat) : ∀ es : List MapEntry, (∀ x ∈ es, 0 ≤ g x ∧ g x ≤ B) → 0 ≤ B → 0 ≤ seenG g seen es ∧ seenG g seen es ≤ B * es.length
  | [], _, _ => by simp [seenG]
  | e :: es, h, hB => by
    obtain ⟨a, b⟩ := seenG_le g B seen es (fun x hx => h x (by simp [hx])) hB
    obtain ⟨c, d⟩ := h e (by simp)
    unfold seenG
    rw [List.length_cons, Int.natCast_succ, Int.mul_add, Int.mul_one]
    split <;> omega
end Go.Proofs.YtjfbcjmnjlehaaaGreatDoor
