/-
  The law's edits: an edit that came in, as the program's and as the document's.
-/
import Derived.Test.YtahahginmgidjaaGreatDoorZMg13
import Derived.Deep.DeepCutAuto
import Derived.Deep.RegionLaw
import Derived.Deep.RegionHeld3
namespace Go.Proofs.YtahahginmgidjaaGreatDoor
open Go.RowKit
set_option linter.unusedVariables false
set_option linter.unusedSimpArgs false

theorem Blk.new_set (w : World) (p : Addr) (u : Value) (t : TypeId) (cs : Array Value) : Blk ((w.setCell p u).alloc (.cells cs t)) w.heap.size t cs := by
  have e : (w.setCell p u).heap.size = w.heap.size := by simp [World.setCell]
  have := Blk.new (w.setCell p u) t cs
  rw [e] at this
  exact this
theorem kc_drew {w : World} {p : Addr} {v : Value} (h : w.cell? p = some v) : w.drew.cell? p = some v := h
theorem kc_alloc {w : World} {p : Addr} {v : Value} (o : Obj) (h : w.cell? p = some v) : (w.alloc o).cell? p = some v :=
  (World.cell?_of_block (w := w) (Below.heap_alloc w o p.block (World.block_lt_of_cell? w p h))).trans h
theorem kc_set {w : World} {p q : Addr} {v u : Value} (hne : p.block ≠ q.block) (h : w.cell? p = some v) : (w.setCell q u).cell? p = some v :=
  (World.cell?_of_block (w := w) (Below.heap_setCell w q u p.block hne)).trans h
/-- A slice that came in reads as these tables; as these numbers. -/
def ReadRows (w : World) (v : Value) (l : List PlaceV) : Prop :=
  ∃ a cap, v = .slice a l.length cap ∧ l.length ≤ cap ∧ l.length ≤ 9223372036854775807 ∧ ∀ A x B, l = A ++ x :: B → ∃ b off, a = some ⟨b, off, none⟩ ∧ b < w.heap.size ∧
    w.cell? ⟨b, off + A.length * 5, none⟩ = some (.int .i64 x.level) ∧ w.cell? ⟨b, off + A.length * 5 + 1, none⟩ = some (.int .i64 x.m.file) ∧ w.cell? ⟨b, off + A.length * 5 + 2, none⟩ = some (.int .i64 x.m.size) ∧ w.cell? ⟨b, off + A.length * 5 + 3, none⟩ = some (.string x.m.lo) ∧ w.cell? ⟨b, off + A.length * 5 + 4, none⟩ = some (.string x.m.hi)
def ReadInts (w : World) (v : Value) (l : List Int) : Prop :=
  ∃ a cap, v = .slice a l.length cap ∧ l.length ≤ cap ∧ l.length ≤ 9223372036854775807 ∧ (l ≠ [] → ∃ b off, a = some ⟨b, off, none⟩ ∧ b < w.heap.size ∧ ∀ i x, l[i]? = some x → w.cell? ⟨b, off + i, none⟩ = some (.int .i64 x))
theorem ReadRows.same {w w' : World} {v : Value} {l : List PlaceV} (h : ReadRows w v l) (hc : Chg (fun _ => False) w w') : ReadRows w' v l := by
  obtain ⟨a, cap, e, h1, h2, h3⟩ := h
  refine ⟨a, cap, e, h1, h2, fun A x B hl => ?_⟩
  obtain ⟨b, off, e', hb, z0, z1, z2, z3, z4⟩ := h3 A x B hl
  exact ⟨b, off, e', Nat.lt_of_lt_of_le hb hc.size, (hc.cell (p := ⟨b, _, none⟩) hb (by simp)).trans z0, (hc.cell (p := ⟨b, _, none⟩) hb (by simp)).trans z1, (hc.cell (p := ⟨b, _, none⟩) hb (by simp)).trans z2, (hc.cell (p := ⟨b, _, none⟩) hb (by simp)).trans z3, (hc.cell (p := ⟨b, _, none⟩) hb (by simp)).trans z4⟩
theorem ReadInts.same {w w' : World} {v : Value} {l : List Int} (h : ReadInts w v l) (hc : Chg (fun _ => False) w w') : ReadInts w' v l := by
  obtain ⟨a, cap, e, h1, h2, h3⟩ := h
  refine ⟨a, cap, e, h1, h2, fun hl => ?_⟩
  obtain ⟨b, off, e', hb, z⟩ := h3 hl
  exact ⟨b, off, e', Nat.lt_of_lt_of_le hb hc.size, fun i x hx => (hc.cell (p := ⟨b, _, none⟩) hb (by simp)).trans (z i x hx)⟩
theorem ReadInts.src {w : World} {v : Value} {l : List Int} (h : ReadInts w v l) : Src Tryz.prog 1 52 v l.length (l.flatMap i64C.g) w := by
  obtain ⟨a, cap, rfl, h1, h2, h3⟩ := h
  have hl : (l.flatMap i64C.g).length = l.length * 1 := flat_len i64Ok.len l
  have h1' : ∀ u ∈ l.flatMap i64C.g, u.oneCell' = true := fun u hu => by
    obtain ⟨x, _, hx⟩ := List.mem_flatMap.1 hu
    exact i64Ok.one x u hx
  cases a with
  | none =>
    have hl0 : l = [] := Classical.byContradiction fun hn => by obtain ⟨b, off, e, _⟩ := h3 hn; cases e
    subst hl0
    exact Src.ofNil w Tryz.underlying52 cap
  | some a =>
    refine Src.ofSlice w Tryz.underlying52 a l.length cap _ hl (fun j u hu => ?_) h1'
    have hj : j < l.length := by
      have := (List.getElem?_eq_some_iff.1 hu).1
      omega
    have hne : l ≠ [] := fun e => by subst e; simp at hj
    obtain ⟨b, off, e, hb, z⟩ := h3 hne
    injection e with e
    subst e
    have hl' : l = l.take j ++ l[j] :: l.drop (j + 1) := by rw [← List.drop_eq_getElem_cons, List.take_append_drop]
    have hfl := flat_at i64Ok.len (l.take j) l[j] (l.drop (j + 1)) 0 (.int .i64 l[j]) rfl
    rw [← hl', List.length_take, Nat.min_eq_left (by omega)] at hfl
    have e1 : j * i64C.k + 0 = j := by show j * 1 + 0 = j; omega
    rw [e1, hu] at hfl
    cases hfl
    have := z j l[j] (List.getElem?_eq_getElem hj)
    rw [Addr.add_lit]
    exact this
section
variable {a : Act} {Q : Exit → Act → World → Prop} {K : Act → World → Prop} {ops : Array Oper} {o : Oper} {rest : List Oper} {E : Prop}
/-- append([]int64(nil), l...), at a step of a region that draws. -/
theorem step_clone (W : World) (hgd : o.guard = none) (s x : Operand) (ho : o.op = .call { callee := .builtin .append, args := #[s, x], argTypes := #[52, 52] }) (L : List Int) (v : Value) (hs : a.eval s = .slice none 0 0) (hx : a.eval x = v) (hv : ReadInts W v L) (hL : L.length ≤ 1000000000)
    (h : ∀ v' w', Lst i64C w' v' L → Chg (fun _ => False) W w' → (∀ k, v'.ownBlock = some k → W.heap.size ≤ k) → K (a.put o.dst v') w') :
    if Region.wanted o (yielded ops a.tmps) = true then Oper.wp Tryz.prog o a W K Q else E := by
  obtain ⟨i0, hi, hz0, hz1, hz2⟩ := info_parts i64Ok.info
  refine step_own_append W hgd s x _ _ ho 2 i0 (.int .i64 0) 1 8 Tryz.underlying52 hi hz0 hz1 hz2 rfl (.slice none 0 0) 0 [] hs (Own.nil _ _ _) v L.length (L.flatMap i64C.g) hx hv.src (by unfold maxLen; omega) (by omega) fun v' w' hown hg hk => ?_
  refine h v' w' ?_ ((chg_grown hg).mono fun k _ e => by simp [Value.ownBlock] at e) fun k hk' => ?_
  · rw [Nat.zero_add, List.nil_append] at hown
    exact hown
  · rcases hk with e | e
    · rw [e] at hk'; simp [Value.ownBlock] at hk'
    · rw [e] at hk'; injection hk' with hk'; omega
end
def EdPost (w : World) (E : EditV) (e : Ending) (w' : World) : Prop :=
  ∃ av dv av2 dv2, e = .returned (.tuple #[.agg #[av, dv, .int .i64 E.log, .int .i64 E.next, .int .i64 E.seq], .agg #[av2, dv2, .int .i64 E.log, .int .i64 E.next, .int .i64 E.seq]]) ∧ Lst placeC w' av E.add ∧ Lst i64C w' dv E.drop ∧ Lst docC w' av2 E.add ∧ Lst i64C w' dv2 E.drop ∧ Chg (fun _ => False) w w'

set_option maxRecDepth 1000000 in
set_option maxHeartbeats 8000000 in
theorem law_edits (E : EditV) (av dv : Value) (w : World) (ha : ReadRows w av E.add) (hd : ReadInts w dv E.drop) (hA : E.add.length ≤ 50000000) (hD : E.drop.length ≤ 50000000) :
    Calls Tryz.prog 14 #[.agg #[av, dv, .int .i64 E.log, .int .i64 E.next, .int .i64 E.seq]] w (EdPost w E) := by
  obtain ⟨w4, hw4⟩ : ∃ w4, w4 = ((w.alloc (.cells #[av, dv, .int .i64 E.log, .int .i64 E.next, .int .i64 E.seq] 54)).alloc (.cells #[.slice none 0 0, .slice none 0 0, .int .i64 0, .int .i64 0, .int .i64 0] 57)).alloc (.cells #[.slice none 0 0, .slice none 0 0, .int .i64 0, .int .i64 0, .int .i64 0] 59) := ⟨_, rfl⟩
  have hc4 : Chg (fun _ => False) w w4 := by rw [hw4]; ((repeat (first | exact Chg.refl _ _ | assumption | refine Chg.drewN ?_ _ | refine Chg.drew ?_ | refine Chg.alloc ?_ _ | refine Chg.setCell ?_ (by first | (simp; done) | (simp; omega) | (intro h; simp at h; omega)) _)))
  have b0 : Blk w4 w.heap.size 54 #[av, dv, .int .i64 E.log, .int .i64 E.next, .int .i64 E.seq] := by rw [hw4]; exact ((Blk.new w _ _).alloc _).alloc _
  have b1 : Blk w4 (w.heap.size + 1) 57 #[.slice none 0 0, .slice none 0 0, .int .i64 0, .int .i64 0, .int .i64 0] := by rw [hw4]; exact (Blk.new1 w _ _ _).alloc _
  have b2 : Blk w4 (w.heap.size + 1 + 1) 59 #[.slice none 0 0, .slice none 0 0, .int .i64 0, .int .i64 0, .int .i64 0] := by rw [hw4]; exact Blk.new2 w _ _ _ _
  have hsz4 : w.heap.size + 3 ≤ w4.heap.size := by rw [hw4]; simp
  obtain ⟨da, dc, rfl, hdc, hdn, hdr⟩ := hd
  have hd : ReadInts w (.slice da E.drop.length dc) E.drop := ⟨da, dc, rfl, hdc, hdn, hdr⟩
  obtain ⟨aa, ac, rfl, hac, han, har⟩ := ha
  have HAR := Lib.hid har
  have k00 := b0.cell 0
  have k01 := b0.cell 1
  have k02 := b0.cell 2
  have k03 := b0.cell 3
  have k04 := b0.cell 4
  simp at k00 k01 k02 k03 k04
  have hlt : w.heap.size < w4.heap.size := by omega
  have HB0 := Lib.hid b0
  have HB1 := Lib.hid b1
  have HB2 := Lib.hid b2
  have HD := Lib.hid hd
  have HC4 := Lib.hid hc4
  have HW4 := Lib.hid hw4
  clear hw4 hc4 b0 b1 b2 har hd hdr
  go_enter Tryz.func14, Tryz.ntmps14
  go_upto_region 1 with fail
  rw [← HW4.out]
  go_cut [4] (fun p wx => ∃ g dv, p = .pointer (some ⟨g, 0, none⟩) ∧ w4.heap.size ≤ g ∧ Blk wx g 57 #[.slice none 0 0, dv, .int .i64 E.log, .int .i64 E.next, .int .i64 E.seq] ∧ Lst i64C wx dv E.drop ∧ (∀ k, dv.ownBlock = some k → w4.heap.size ≤ k) ∧ Chg (fun _ => False) w4 wx)
  case first =>
    go_region_held3 (fun w' => w'.cell? ⟨w.heap.size, 1, none⟩ = some (.slice da E.drop.length dc) ∧ w'.cell? ⟨w.heap.size, 2, none⟩ = some (.int .i64 E.log) ∧ w'.cell? ⟨w.heap.size, 3, none⟩ = some (.int .i64 E.next) ∧ w'.cell? ⟨w.heap.size, 4, none⟩ = some (.int .i64 E.seq))
      ((go_split_ands; (try dsimp only); (repeat' with_reducible apply And.intro) <;> (repeat (first | with_reducible assumption | with_reducible refine kc_drew ?_ | with_reducible refine kc_alloc _ ?_ | with_reducible refine kc_set (by simp <;> omega) ?_ | with_reducible refine (hc5.cell (by simp <;> omega) (by simp)).trans ?_))))
      ((refine step_clone _ (by rfl) _ _ (by rfl) E.drop (.slice da E.drop.length dc) (by rfl) (by rfl) ((HD.out.same HC4.out).same (by ((repeat (first | exact Chg.refl _ _ | assumption | refine Chg.drewN ?_ _ | refine Chg.drew ?_ | refine Chg.alloc ?_ _ | refine Chg.setCell ?_ (by first | (simp; done) | (simp; omega) | (intro h; simp at h; omega)) _))))) (by omega) ?_; intro v' w5 hO5 hc5 hb5; obtain ⟨a5, p5, rfl, _, _, _⟩ := i64_form hO5; have hc45 : Chg (fun _ => False) w4 w5 := Chg.then (by ((repeat (first | exact Chg.refl _ _ | assumption | refine Chg.drewN ?_ _ | refine Chg.drew ?_ | refine Chg.alloc ?_ _ | refine Chg.setCell ?_ (by first | (simp; done) | (simp; omega) | (intro h; simp at h; omega)) _)))) hc5; have hs45 := hc45.size; have hlt5 : w.heap.size < w5.heap.size := (by omega); (first | (have hz := (show Blk _ w4.heap.size 57 #[.slice none 0 0, .slice none 0 0, .int .i64 0, .int .i64 0, .int .i64 0] from (Blk.drew (Blk.new w4 _ _))).chg hc5 (by simp); have z0 : w5.cell? ⟨w4.heap.size, 0, none⟩ = some (.slice none 0 0) := hz.cell 0; have z1 : w5.cell? ⟨w4.heap.size, 1, none⟩ = some (.slice none 0 0) := hz.cell 1; have z2 : w5.cell? ⟨w4.heap.size, 2, none⟩ = some (.int .i64 0) := hz.cell 2; have z3 : w5.cell? ⟨w4.heap.size, 3, none⟩ = some (.int .i64 0) := hz.cell 3; have z4 : w5.cell? ⟨w4.heap.size, 4, none⟩ = some (.int .i64 0) := hz.cell 4; have fz0 := hz.frozen 0; have fz1 := hz.frozen 1; have fz2 := hz.frozen 2; have fz3 := hz.frozen 3; have fz4 := hz.frozen 4; have HZZ := Lib.hid hz; clear hz) | skip); have HC45 := Lib.hid hc45; have HO5 := Lib.hid hO5; have HB5 := Lib.hid hb5; clear hO5 hb5 hc45))
    · go_wp2_with fail
      go_meet
      refine ⟨_, .slice a5 E.drop.length p5, rfl, HC45.out.size, Blk.new w5 _ _, HO5.out.same (by ((repeat (first | exact Chg.refl _ _ | assumption | refine Chg.drewN ?_ _ | refine Chg.drew ?_ | refine Chg.alloc ?_ _ | refine Chg.setCell ?_ (by first | (simp; done) | (simp; omega) | (intro h; simp at h; omega)) _)))), fun k hk => ?_, HC45.out.alloc _⟩
      have := HB5.out k hk
      simpa using this
    · go_wp2_with fail
      go_meet
      have hz := HZZ.out
      have hne : (Value.slice a5 E.drop.length p5).ownBlock ≠ some w4.heap.size := fun e => by
        obtain ⟨cs, hb⟩ := HO5.out.typed e
        exact hb.ne_ hz (by decide) rfl
      refine ⟨_, .slice a5 E.drop.length p5, rfl, Nat.le_refl _, ?_, HO5.out.chg (S := fun k => k = w4.heap.size) (by ((repeat (first | with_reducible exact Chg.refl _ _ | with_reducible assumption | with_reducible refine Chg.drewN ?_ _ | with_reducible refine Chg.drew ?_ | with_reducible refine Chg.alloc ?_ _ | with_reducible refine Chg.setCell ?_ (by first | (simp; done) | (simp; omega) | (intro h; simp at h; omega)) _)))) (fun k hk e => hne (by rw [hk, e])), fun k hk => ?_, ?_⟩
      · have := ((((hz.set_ 0 (.slice none 0 0)).set_ 1 (.slice a5 E.drop.length p5)).set_ 2 (.int .i64 E.log)).set_ 3 (.int .i64 E.next)).set_ 4 (.int .i64 E.seq)
        simpa using this
      · have := HB5.out k hk
        simp at this
        omega
      · have := HC45.out
        ((repeat (first | with_reducible exact Chg.refl _ _ | with_reducible assumption | with_reducible refine Chg.drewN ?_ _ | with_reducible refine Chg.drew ?_ | with_reducible refine Chg.alloc ?_ _ | with_reducible refine Chg.setCell ?_ (by first | (simp; done) | (simp; omega) | (intro h; simp at h; omega)) _)))
  case rest =>
    obtain ⟨g1, dv1, rfl, hg1, hb1, hl1, hk1, hc1⟩ := hcut
    obtain ⟨wa, rfl⟩ : ∃ wa : World, wa = wc := ⟨_, rfl⟩
    have hlta : w.heap.size < wa.heap.size := Nat.lt_of_lt_of_le hlt hc1.size
    have k00 := (hc1.cell (p := ⟨w.heap.size, 0, none⟩) hlt (by simp)).trans k00
    have k01 := (hc1.cell (p := ⟨w.heap.size, 1, none⟩) hlt (by simp)).trans k01
    have k02 := (hc1.cell (p := ⟨w.heap.size, 2, none⟩) hlt (by simp)).trans k02
    have k03 := (hc1.cell (p := ⟨w.heap.size, 3, none⟩) hlt (by simp)).trans k03
    have k04 := (hc1.cell (p := ⟨w.heap.size, 4, none⟩) hlt (by simp)).trans k04
    have hca := HC4.out.then hc1
    have hda : ReadInts wa (.slice da E.drop.length dc) E.drop := HD.out.same hca
    have HDA := Lib.hid hda
    have HCA := Lib.hid hca
    have HCA4 := Lib.hid hc1
    have HB1A := Lib.hid hb1
    have HL1A := Lib.hid hl1
    have HK1A := Lib.hid hk1
    have hsza := hc1.size
    clear hda hca hc1 hb1 hl1 hk1
    go_wp2_with fail
    go_cut [5] (fun p wx => ∃ g dv, p = .pointer (some ⟨g, 0, none⟩) ∧ wa.heap.size ≤ g ∧ Blk wx g 59 #[.slice none 0 0, dv, .int .i64 E.log, .int .i64 E.next, .int .i64 E.seq] ∧ Lst i64C wx dv E.drop ∧ (∀ k, dv.ownBlock = some k → wa.heap.size ≤ k) ∧ Chg (fun _ => False) wa wx)
    case first =>
      go_region_held3 (fun w' => w'.cell? ⟨w.heap.size, 1, none⟩ = some (.slice da E.drop.length dc) ∧ w'.cell? ⟨w.heap.size, 2, none⟩ = some (.int .i64 E.log) ∧ w'.cell? ⟨w.heap.size, 3, none⟩ = some (.int .i64 E.next) ∧ w'.cell? ⟨w.heap.size, 4, none⟩ = some (.int .i64 E.seq))
        ((go_split_ands; (try dsimp only); (repeat' with_reducible apply And.intro) <;> (repeat (first | with_reducible assumption | with_reducible refine kc_drew ?_ | with_reducible refine kc_alloc _ ?_ | with_reducible refine kc_set (by simp <;> omega) ?_ | with_reducible refine (hc5.cell (by simp <;> omega) (by simp)).trans ?_))))
        ((refine step_clone _ (by rfl) _ _ (by rfl) E.drop (.slice da E.drop.length dc) (by rfl) (by rfl) (HDA.out.same (by ((repeat (first | exact Chg.refl _ _ | assumption | refine Chg.drewN ?_ _ | refine Chg.drew ?_ | refine Chg.alloc ?_ _ | refine Chg.setCell ?_ (by first | (simp; done) | (simp; omega) | (intro h; simp at h; omega)) _))))) (by omega) ?_; intro v' w5 hO5 hc5 hb5; obtain ⟨a5, p5, rfl, _, _, _⟩ := i64_form hO5; have hc45 : Chg (fun _ => False) wa w5 := Chg.then (by ((repeat (first | exact Chg.refl _ _ | assumption | refine Chg.drewN ?_ _ | refine Chg.drew ?_ | refine Chg.alloc ?_ _ | refine Chg.setCell ?_ (by first | (simp; done) | (simp; omega) | (intro h; simp at h; omega)) _)))) hc5; have hs45 := hc45.size; have hlt5 : w.heap.size < w5.heap.size := (by omega); (first | (have hz := (show Blk _ wa.heap.size 59 #[.slice none 0 0, .slice none 0 0, .int .i64 0, .int .i64 0, .int .i64 0] from (Blk.drew (Blk.new wa _ _))).chg hc5 (by simp); have z0 : w5.cell? ⟨wa.heap.size, 0, none⟩ = some (.slice none 0 0) := hz.cell 0; have z1 : w5.cell? ⟨wa.heap.size, 1, none⟩ = some (.slice none 0 0) := hz.cell 1; have z2 : w5.cell? ⟨wa.heap.size, 2, none⟩ = some (.int .i64 0) := hz.cell 2; have z3 : w5.cell? ⟨wa.heap.size, 3, none⟩ = some (.int .i64 0) := hz.cell 3; have z4 : w5.cell? ⟨wa.heap.size, 4, none⟩ = some (.int .i64 0) := hz.cell 4; have fz0 := hz.frozen 0; have fz1 := hz.frozen 1; have fz2 := hz.frozen 2; have fz3 := hz.frozen 3; have fz4 := hz.frozen 4; have HZZ := Lib.hid hz; clear hz) | skip); have HC45 := Lib.hid hc45; have HO5 := Lib.hid hO5; have HB5 := Lib.hid hb5; clear hO5 hb5 hc45))
      · go_wp2_with fail
        go_meet
        refine ⟨_, .slice a5 E.drop.length p5, rfl, HC45.out.size, Blk.new w5 _ _, HO5.out.same (by ((repeat (first | exact Chg.refl _ _ | assumption | refine Chg.drewN ?_ _ | refine Chg.drew ?_ | refine Chg.alloc ?_ _ | refine Chg.setCell ?_ (by first | (simp; done) | (simp; omega) | (intro h; simp at h; omega)) _)))), fun k hk => ?_, HC45.out.alloc _⟩
        have := HB5.out k hk
        simpa using this
      · go_wp2_with fail
        go_meet
        have hz := HZZ.out
        have hne : (Value.slice a5 E.drop.length p5).ownBlock ≠ some wa.heap.size := fun e => by
          obtain ⟨cs, hb⟩ := HO5.out.typed e
          exact hb.ne_ hz (by decide) rfl
        refine ⟨_, .slice a5 E.drop.length p5, rfl, Nat.le_refl _, ?_, HO5.out.chg (S := fun k => k = wa.heap.size) (by ((repeat (first | with_reducible exact Chg.refl _ _ | with_reducible assumption | with_reducible refine Chg.drewN ?_ _ | with_reducible refine Chg.drew ?_ | with_reducible refine Chg.alloc ?_ _ | with_reducible refine Chg.setCell ?_ (by first | (simp; done) | (simp; omega) | (intro h; simp at h; omega)) _)))) (fun k hk e => hne (by rw [hk, e])), fun k hk => ?_, ?_⟩
        · have := ((((hz.set_ 0 (.slice none 0 0)).set_ 1 (.slice a5 E.drop.length p5)).set_ 2 (.int .i64 E.log)).set_ 3 (.int .i64 E.next)).set_ 4 (.int .i64 E.seq)
          simpa using this
        · have := HB5.out k hk
          simp at this
          omega
        · have := HC45.out
          ((repeat (first | with_reducible exact Chg.refl _ _ | with_reducible assumption | with_reducible refine Chg.drewN ?_ _ | with_reducible refine Chg.drew ?_ | with_reducible refine Chg.alloc ?_ _ | with_reducible refine Chg.setCell ?_ (by first | (simp; done) | (simp; omega) | (intro h; simp at h; omega)) _)))
    case rest =>
      obtain ⟨g2, dv2, rfl, hg2, hb2, hl2, hk2, hc2⟩ := hcut
      obtain ⟨wb, rfl⟩ : ∃ wb : World, wb = wc := ⟨_, rfl⟩
      have hne12 : g1 ≠ g2 := by have := HB1A.out.lt; omega
      have hne21 : g2 ≠ g1 := fun e => hne12 e.symm
      have hsz4 := HC4.out.size
      have hlt1 := HB1A.out.lt
      have hbb1 := HB1A.out.chg hc2 (by simp)
      have hlb1 := HL1A.out.same hc2
      have hcb4 := HCA4.out.then hc2
      have k00 := (hc2.cell (p := ⟨w.heap.size, 0, none⟩) hlta (by simp)).trans k00
      have HBB1 := Lib.hid hbb1
      have HLB1 := Lib.hid hlb1
      have HB2B := Lib.hid hb2
      have HL2B := Lib.hid hl2
      have HK2B := Lib.hid (show ∀ k, dv2.ownBlock = some k → w4.heap.size ≤ k from fun k hk => by have := hk2 k hk; omega)
      have HCB4 := Lib.hid hcb4
      have hg24 : w4.heap.size ≤ g2 := by omega
      clear hbb1 hlb1 hb2 hl2 hk2 hc2 hcb4 k01 k02 k03 k04 HDA HL1A HB1A
      go_wp2_with fail
      go_loopw [31] (fun i wr => ∃ A R v1 v2, E.add = A ++ R ∧ i = .int .i64 A.length ∧ Blk wr g1 57 #[v1, dv1, .int .i64 E.log, .int .i64 E.next, .int .i64 E.seq] ∧ Lst placeC wr v1 A ∧ (∀ k, v1.ownBlock = some k → w4.heap.size ≤ k) ∧ Blk wr g2 59 #[v2, dv2, .int .i64 E.log, .int .i64 E.next, .int .i64 E.seq] ∧ Lst docC wr v2 A ∧ (∀ k, v2.ownBlock = some k → w4.heap.size ≤ k) ∧ Lst i64C wr dv1 E.drop ∧ Lst i64C wr dv2 E.drop ∧ Chg (fun _ => False) w4 wr) (fun i _ => E.add.length - (intOf i).toNat)
      case atStart => exact ⟨[], E.add, _, _, rfl, rfl, HBB1.out, Lst.nil _ _, by simp [Value.ownBlock], HB2B.out, Lst.nil _ _, by simp [Value.ownBlock], HLB1.out, HL2B.out, HCB4.out⟩
      case round =>
        obtain ⟨A, R, v1, v2, hL, rfl, hB1, hO1, hk1, hB2, hO2, hk2, hD1, hD2, hcr⟩ := hrel
        obtain ⟨oa1, oc1, rfl, _, _, _⟩ := place_form hO1
        obtain ⟨oa2, oc2, rfl, _, _, _⟩ := doc_form hO2
        have hAl : A.length ≤ E.add.length := by rw [hL]; simp
        have g10 := hB1.cell 0
        have fg10 := hB1.frozen 0
        have g20 := hB2.cell 0
        have fg20 := hB2.frozen 0
        simp at g10 g20
        have hlt1 := hB1.lt
        have hlt2 := hB2.lt
        cases R with
        | nil =>
          have hge : ¬ ((A.length : Int) < (E.add.length : Int)) := by rw [hL]; simp
          have hA0 : E.add = A := by rw [hL]; simp
          have HA0 := Lib.hid hA0
          clear hL hA0
          have a1 := hB1.cell 1
          have a2 := hB1.cell 2
          have a3 := hB1.cell 3
          have a4 := hB1.cell 4
          have e1 := hB2.cell 1
          have e2 := hB2.cell 2
          have e3 := hB2.cell 3
          have e4 := hB2.cell 4
          simp at a1 a2 a3 a4 e1 e2 e3 e4
          have hr1 := HB1.out.chg hcr (by simp)
          have hr2 := HB2.out.chg hcr (by simp)
          have fr1 := hr1.frozen
          have fr2 := hr2.frozen
          have f10 := hr1.frozen 0
          have f11 := hr1.frozen 1
          have f12 := hr1.frozen 2
          have f13 := hr1.frozen 3
          have f14 := hr1.frozen 4
          have f20 := hr2.frozen 0
          have f21 := hr2.frozen 1
          have f22 := hr2.frozen 2
          have f23 := hr2.frozen 3
          have f24 := hr2.frozen 4
          have r10 := hr1.cell 0
          have r11 := hr1.cell 1
          have r12 := hr1.cell 2
          have r13 := hr1.cell 3
          have r14 := hr1.cell 4
          have r20 := hr2.cell 0
          have r21 := hr2.cell 1
          have r22 := hr2.cell 2
          have r23 := hr2.cell 3
          have r24 := hr2.cell 4
          simp at r10 r11 r12 r13 r14 r20 r21 r22 r23 r24
          have hn1 : ¬ w.heap.size + 1 = g1 := by omega
          have hn2 : ¬ w.heap.size + 1 = g2 := by omega
          have hn3 : ¬ w.heap.size + 1 + 1 = g1 := by omega
          have hn4 : ¬ w.heap.size + 1 + 1 = g2 := by omega
          obtain ⟨l1, hl1⟩ : ∃ l1, l1 = A.length := ⟨_, rfl⟩
          have HR1 := Lib.hid hr1
          have HR2 := Lib.hid hr2
          have HO1 := Lib.hid hO1
          have HO2 := Lib.hid hO2
          have HD1 := Lib.hid hD1
          have HD2 := Lib.hid hD2
          have HCR := Lib.hid hcr
          clear hr1 hr2 hO1 hO2 hD1 hD2 hcr hB1 hB2 fr1 fr2 hl1 hk1 hk2
          obtain ⟨x1, y1, rfl, _, _, _⟩ := i64_form HD1.out
          obtain ⟨x2, y2, rfl, _, _, _⟩ := i64_form HD2.out
          go_wp2_with fail
          go_cut [59] (fun _ wx => Blk wx (w.heap.size + 1) 57 #[.slice oa1 A.length oc1, .slice x1 E.drop.length y1, .int .i64 E.log, .int .i64 E.next, .int .i64 E.seq] ∧ Blk wx (w.heap.size + 1 + 1) 59 #[.slice oa2 A.length oc2, .slice x2 E.drop.length y2, .int .i64 E.log, .int .i64 E.next, .int .i64 E.seq] ∧ Chg (fun k => k = w.heap.size + 1 ∨ k = w.heap.size + 1 + 1) wr wx)
          case first =>
            go_region
            go_wp2_with fail
            go_meet
            refine ⟨?_, ?_, ?_⟩
            · have := (((((HR1.out.set_ 0 (.slice oa1 A.length oc1)).set_ 1 (.slice x1 E.drop.length y1)).set_ 2 (.int .i64 E.log)).set_ 3 (.int .i64 E.next)).set_ 4 (.int .i64 E.seq))
              have := (((((this.far (p := ⟨w.heap.size + 1 + 1, 0, none⟩) (by simp) (.slice oa2 A.length oc2)).far (p := ⟨w.heap.size + 1 + 1, 1, none⟩) (by simp) (.slice x2 E.drop.length y2)).far (p := ⟨w.heap.size + 1 + 1, 2, none⟩) (by simp) (.int .i64 E.log)).far (p := ⟨w.heap.size + 1 + 1, 3, none⟩) (by simp) (.int .i64 E.next)).far (p := ⟨w.heap.size + 1 + 1, 4, none⟩) (by simp) (.int .i64 E.seq))
              simpa using this.drew
            · have := HR2.out
              have := (((((this.far (p := ⟨w.heap.size + 1, 0, none⟩) (by simp) (.slice oa1 A.length oc1)).far (p := ⟨w.heap.size + 1, 1, none⟩) (by simp) (.slice x1 E.drop.length y1)).far (p := ⟨w.heap.size + 1, 2, none⟩) (by simp) (.int .i64 E.log)).far (p := ⟨w.heap.size + 1, 3, none⟩) (by simp) (.int .i64 E.next)).far (p := ⟨w.heap.size + 1, 4, none⟩) (by simp) (.int .i64 E.seq))
              have := (((((this.set_ 0 (.slice oa2 A.length oc2)).set_ 1 (.slice x2 E.drop.length y2)).set_ 2 (.int .i64 E.log)).set_ 3 (.int .i64 E.next)).set_ 4 (.int .i64 E.seq))
              simpa using this.drew
            · ((repeat (first | with_reducible exact Chg.refl _ _ | with_reducible assumption | with_reducible refine Chg.drewN ?_ _ | with_reducible refine Chg.drew ?_ | with_reducible refine Chg.alloc ?_ _ | with_reducible refine Chg.setCell ?_ (by first | (simp; done) | (simp; omega) | (intro h; simp at h; omega)) _)))
          case rest =>
            obtain ⟨hz1, hz2, hcz⟩ := hcut
            have hO1 := HO1.out.chg hcz (fun k hk e => by
              obtain ⟨cs, hb⟩ := HO1.out.typed hk
              rcases e with e | e
              · subst e; exact hb.ne_ HR1.out (by decide) rfl
              · subst e; exact hb.ne_ HR2.out (by decide) rfl)
            have hO2 := HO2.out.chg hcz (fun k hk e => by
              obtain ⟨cs, hb⟩ := HO2.out.typed hk
              rcases e with e | e
              · subst e; exact hb.ne_ HR1.out (by decide) rfl
              · subst e; exact hb.ne_ HR2.out (by decide) rfl)
            have hD1 := HD1.out.chg hcz (fun k hk e => by
              obtain ⟨cs, hb⟩ := HD1.out.typed hk
              rcases e with e | e
              · subst e; exact hb.ne_ HR1.out (by decide) rfl
              · subst e; exact hb.ne_ HR2.out (by decide) rfl)
            have hD2 := HD2.out.chg hcz (fun k hk e => by
              obtain ⟨cs, hb⟩ := HD2.out.typed hk
              rcases e with e | e
              · subst e; exact hb.ne_ HR1.out (by decide) rfl
              · subst e; exact hb.ne_ HR2.out (by decide) rfl)
            have hcw := (HC4.out.then HCR.out).trans hcz (fun k hk e => by omega)
            have x10 := hz1.cell 0
            have x11 := hz1.cell 1
            have x12 := hz1.cell 2
            have x13 := hz1.cell 3
            have x14 := hz1.cell 4
            have x20 := hz2.cell 0
            have x21 := hz2.cell 1
            have x22 := hz2.cell 2
            have x23 := hz2.cell 3
            have x24 := hz2.cell 4
            simp at x10 x11 x12 x13 x14 x20 x21 x22 x23 x24
            have HX1 := Lib.hid hO1
            have HX2 := Lib.hid hO2
            have HY1 := Lib.hid hD1
            have HY2 := Lib.hid hD2
            have HCW := Lib.hid hcw
            clear hO1 hO2 hD1 hD2 hcw hz1 hz2 hcz
            go_wp2_with fail
            exact bodyPost_ret (v := .tuple #[.agg #[.slice oa1 A.length oc1, .slice x1 E.drop.length y1, .int .i64 E.log, .int .i64 E.next, .int .i64 E.seq], .agg #[.slice oa2 A.length oc2, .slice x2 E.drop.length y2, .int .i64 E.log, .int .i64 E.next, .int .i64 E.seq]]) (by simp [results, Tryz.results14, go_sem, x10, x11, x12, x13, x14, x20, x21, x22, x23, x24]) rfl ⟨_, _, _, _, rfl, by rw [HA0.out]; exact HX1.out, HY1.out, by rw [HA0.out]; exact HX2.out, HY2.out, HCW.out⟩
        | cons x B =>
          have hlt : (A.length : Int) < (E.add.length : Int) := by rw [hL]; simp; omega
          have hge : (0 : Int) ≤ (A.length : Int) := by omega
          have hL2 : E.add = (A ++ [x]) ++ B := by rw [hL]; simp
          obtain ⟨b, off, rfl, hb, z0, z1, z2, z3, z4⟩ := HAR.out A x B hL
          have hcw := HC4.out.then hcr
          have z0 := (hcw.cell (p := ⟨b, off + A.length * 5, none⟩) hb (by simp)).trans z0
          have z1 := (hcw.cell (p := ⟨b, off + A.length * 5 + 1, none⟩) hb (by simp)).trans z1
          have z2 := (hcw.cell (p := ⟨b, off + A.length * 5 + 2, none⟩) hb (by simp)).trans z2
          have z3 := (hcw.cell (p := ⟨b, off + A.length * 5 + 3, none⟩) hb (by simp)).trans z3
          have z4 := (hcw.cell (p := ⟨b, off + A.length * 5 + 4, none⟩) hb (by simp)).trans z4
          have hAl2 : A.length < E.add.length := by rw [hL]; simp
          have hszr := hcr.size
          have HL := Lib.hid hL2
          have HB1 := Lib.hid hB1
          have HB2 := Lib.hid hB2
          have HO1 := Lib.hid hO1
          have HO2 := Lib.hid hO2
          have HD1 := Lib.hid hD1
          have HD2 := Lib.hid hD2
          have HCR := Lib.hid hcr
          have HK1 := Lib.hid hk1
          have HK2 := Lib.hid hk2
          clear hL hL2 hB1 hB2 hO1 hO2 hD1 hD2 hcr hk1 hk2 hcw
          go_wp2_with (at_builtin; refine wpList_lst_app placeOk _ (by rfl) _ _ (by rfl) A _ x (by rfl) (HO1.out.same (by ((repeat (first | exact Chg.refl _ _ | assumption | refine Chg.drewN ?_ _ | refine Chg.drew ?_ | refine Chg.alloc ?_ _ | refine Chg.setCell ?_ (by first | (simp; done) | (simp; omega) | (intro h; simp at h; omega)) _))))) _ (by rfl) (by omega) (by (first | exact Blk.new _ _ _ | exact Blk.new1 _ _ _ _ | exact Blk.new2 _ _ _ _ _ | exact Blk.drew (Blk.new _ _ _) | exact Blk.drew (Blk.new1 _ _ _ _) | exact Blk.drew (Blk.new2 _ _ _ _ _) | exact Blk.drew (Blk.drew (Blk.new _ _ _)) | exact Blk.drewN (Blk.new _ _ _) _ | exact Blk.drewN (Blk.new1 _ _ _ _) _)) ?_)
          intro v' w5 hO5 hc5 hk5
          obtain ⟨p5, c5, e5, _, _, _⟩ := place_form hO5
          rw [List.length_append, List.length_singleton] at e5
          subst e5
          obtain ⟨W1, hW1⟩ : ∃ W1, W1 = (wr.alloc (.cells #[.int .i64 x.level, .int .i64 x.m.file, .int .i64 x.m.size, .string x.m.lo, .string x.m.hi] 128)).alloc (.cells #[.int .i64 x.level, .int .i64 x.m.file, .int .i64 x.m.size, .string x.m.lo, .string x.m.hi] 132) := ⟨_, rfl⟩
          rw [← hW1] at hc5
          have hr1 : Chg (fun _ => False) wr W1 := by rw [hW1]; ((repeat (first | exact Chg.refl _ _ | assumption | refine Chg.drewN ?_ _ | refine Chg.drew ?_ | refine Chg.alloc ?_ _ | refine Chg.setCell ?_ (by first | (simp; done) | (simp; omega) | (intro h; simp at h; omega)) _)))
          have bx : Blk W1 wr.heap.size 128 #[.int .i64 x.level, .int .i64 x.m.file, .int .i64 x.m.size, .string x.m.lo, .string x.m.hi] := by rw [hW1]; exact (Blk.new wr _ _).alloc _
          have hsz1 : W1.heap.size = wr.heap.size + 1 + 1 := by rw [hW1]; simp
          have t1 : ∀ g t cs, Blk wr g t cs → t ≠ 132 → (Value.slice oa1 A.length oc1).ownBlock ≠ some g := fun g t cs hb hne e => by
            obtain ⟨cs', hb'⟩ := HO1.out.typed e
            exact hb.ne_ hb' hne rfl
          have tx : (Value.slice oa1 A.length oc1).ownBlock ≠ some wr.heap.size := fun e => by have := HO1.out.lt e; omega
          have tl : ∀ {α : Type} {C : Codec α} {v : Value} {l : List α}, Lst C wr v l → C.e ≠ 132 → ∀ k, v.ownBlock = some k → ¬ (Value.slice oa1 A.length oc1).ownBlock = some k := fun h hne k hk e => by
            obtain ⟨cs, hb⟩ := h.typed hk
            obtain ⟨cs', hb'⟩ := HO1.out.typed e
            exact hb.ne_ hb' hne rfl
          obtain ⟨f1, f2, f3⟩ := field_put (C := placeC) (i := 0) (HB1.out.chg hr1 (by simp)) (by decide) (HCR.out.then hr1) hg1 HK1.out (t1 _ _ _ HB1.out (by decide)) hO5 hc5
          have hst : Chg (fun k => k = g1) w5 (w5.setCell ⟨g1, 0, none⟩ (.slice p5 (A.length + 1) c5)) := Chg.setCell (S := fun k => k = g1) (Chg.refl _ w5) (p := ⟨g1, 0, none⟩) (fun _ => rfl) _
          have b2 := (HB2.out.chg hr1 (by simp)).chg hc5 (t1 _ _ _ HB2.out (by decide))
          have b1 := (HB1.out.chg hr1 (by simp)).chg hc5 (t1 _ _ _ HB1.out (by decide))
          have bx5 := bx.chg hc5 tx
          have o2 := ((HO2.out.same hr1).chg hc5 (tl HO2.out (by decide))).chg hst (fun k hk e => by
            subst e
            obtain ⟨cs, hb⟩ := HO2.out.typed hk
            exact hb.ne_ HB1.out (by decide) rfl)
          have d1 := ((HD1.out.same hr1).chg hc5 (tl HD1.out (by decide))).chg hst (fun k hk e => by
            subst e
            obtain ⟨cs, hb⟩ := HD1.out.typed hk
            exact hb.ne_ HB1.out (by decide) rfl)
          have d2 := ((HD2.out.same hr1).chg hc5 (tl HD2.out (by decide))).chg hst (fun k hk e => by
            subst e
            obtain ⟨cs, hb⟩ := HD2.out.typed hk
            exact hb.ne_ HB1.out (by decide) rfl)
          have b26 := b2.chg hst (by omega)
          have x0 := bx5.cell 0
          have x1 := bx5.cell 1
          have x2 := bx5.cell 2
          have x3 := bx5.cell 3
          have x4 := bx5.cell 4
          have q20 := b2.cell 0
          have fq20 := b2.frozen 0
          have q10 := b1.cell 0
          have fq10 := b1.frozen 0
          simp at x0 x1 x2 x3 x4 q20 q10
          have hxg1 : ¬ wr.heap.size = g1 := by omega
          have hxg2 : ¬ wr.heap.size = g2 := by omega
          have hlt5 : wr.heap.size < w5.heap.size := by have := hc5.size; omega
          have hk5' : ∀ k, (Value.slice p5 (A.length + 1) c5).ownBlock = some k → w4.heap.size ≤ k := fun k hk => by
            rcases hk5 k hk with e | e
            · exact HK1.out k e
            · omega
          have F1 := Lib.hid f1
          have F2 := Lib.hid f2
          have F3 := Lib.hid f3
          have B26 := Lib.hid b26
          have O2 := Lib.hid o2
          have D1 := Lib.hid d1
          have D2 := Lib.hid d2
          have HK5 := Lib.hid hk5'
          have HW1 := Lib.hid hW1
          clear hW1 hO5 hc5 hk5 hr1 bx t1 tx tl f1 f2 f3 hst b1 b2 bx5 o2 d1 d2 b26 hk5' HB1 HB2 HO1 HO2 HD1 HD2 z0 z1 z2 z3 z4
          go_wp2_with (at_builtin; refine wpList_lst_app docOk _ (by rfl) _ _ (by rfl) A _ x (by rfl) (O2.out.same (by ((repeat (first | exact Chg.refl _ _ | assumption | refine Chg.drewN ?_ _ | refine Chg.drew ?_ | refine Chg.alloc ?_ _ | refine Chg.setCell ?_ (by first | (simp; done) | (simp; omega) | (intro h; simp at h; omega)) _))))) _ (by rfl) (by omega) (Blk.new_set _ _ _ _ _) ?_)
          intro v6 w6 hO6 hc6 hk6
          obtain ⟨p6, c6, e6, _, _, _⟩ := doc_form hO6
          rw [List.length_append, List.length_singleton] at e6
          subst e6
          obtain ⟨W2, hW2⟩ : ∃ W2, W2 = (w5.setCell ⟨g1, 0, none⟩ (.slice p5 (A.length + 1) c5)).alloc (.cells #[.int .i64 x.level, .int .i64 x.m.file, .int .i64 x.m.size, .string x.m.lo, .string x.m.hi] 120) := ⟨_, rfl⟩
          rw [← hW2] at hc6
          have hr2 : Chg (fun _ => False) (w5.setCell ⟨g1, 0, none⟩ (.slice p5 (A.length + 1) c5)) W2 := by rw [hW2]; exact (Chg.refl _ _).alloc _
          have hsz2 : w5.heap.size ≤ W2.heap.size := by rw [hW2]; simp
          have t2 : ∀ g t cs, Blk (w5.setCell ⟨g1, 0, none⟩ (.slice p5 (A.length + 1) c5)) g t cs → t ≠ 120 → (Value.slice oa2 A.length oc2).ownBlock ≠ some g := fun g t cs hb hne e => by
            obtain ⟨cs', hb'⟩ := O2.out.typed e
            exact hb.ne_ hb' hne rfl
          have tl : ∀ {α : Type} {C : Codec α} {v : Value} {l : List α}, Lst C (w5.setCell ⟨g1, 0, none⟩ (.slice p5 (A.length + 1) c5)) v l → C.e ≠ 120 → ∀ k, v.ownBlock = some k → ¬ (Value.slice oa2 A.length oc2).ownBlock = some k := fun h hne k hk e => by
            obtain ⟨cs, hb⟩ := h.typed hk
            obtain ⟨cs', hb'⟩ := O2.out.typed e
            exact hb.ne_ hb' hne rfl
          obtain ⟨f1, f2, f3⟩ := field_put (C := docC) (i := 0) (B26.out.chg hr2 (by simp)) (by decide) (F3.out.then hr2) hg24 HK2.out (t2 _ _ _ B26.out (by decide)) hO6 hc6
          have hst : Chg (fun k => k = g2) w6 (w6.setCell ⟨g2, 0, none⟩ (.slice p6 (A.length + 1) c6)) := Chg.setCell (S := fun k => k = g2) (Chg.refl _ w6) (p := ⟨g2, 0, none⟩) (fun _ => rfl) _
          have bb1 := ((F1.out.chg hr2 (by simp)).chg hc6 (t2 _ _ _ F1.out (by decide)))
          have bb2 := ((B26.out.chg hr2 (by simp)).chg hc6 (t2 _ _ _ B26.out (by decide)))
          have lo1 := ((F2.out.same hr2).chg hc6 (tl F2.out (by decide))).chg hst (fun k hk e => by
            subst e
            obtain ⟨cs, hb⟩ := F2.out.typed hk
            exact hb.ne_ B26.out (by decide) rfl)
          have d1 := ((D1.out.same hr2).chg hc6 (tl D1.out (by decide))).chg hst (fun k hk e => by
            subst e
            obtain ⟨cs, hb⟩ := D1.out.typed hk
            exact hb.ne_ B26.out (by decide) rfl)
          have d2 := ((D2.out.same hr2).chg hc6 (tl D2.out (by decide))).chg hst (fun k hk e => by
            subst e
            obtain ⟨cs, hb⟩ := D2.out.typed hk
            exact hb.ne_ B26.out (by decide) rfl)
          have bz1 := bb1.chg hst (by omega)
          have y20 := bb2.cell 0
          have fy20 := bb2.frozen 0
          simp at y20
          have hk6' : ∀ k, (Value.slice p6 (A.length + 1) c6).ownBlock = some k → w4.heap.size ≤ k := fun k hk => by
            rcases hk6 k hk with e | e
            · exact HK2.out k e
            · have := HC4.out.size
              omega
          have G1 := Lib.hid f1
          have G2 := Lib.hid f2
          have G3 := Lib.hid f3
          have BZ1 := Lib.hid bz1
          have LO1 := Lib.hid lo1
          have DD1 := Lib.hid d1
          have DD2 := Lib.hid d2
          have HK6 := Lib.hid hk6'
          have HW2 := Lib.hid hW2
          clear hW2 hO6 hc6 hk6 hr2 t2 tl f1 f2 f3 hst bb1 bb2 lo1 d1 d2 bz1 hk6' B26 O2 D1 D2 q20 fq20 q10 fq10 x0 x1 x2 x3 x4 F1 F2 F3
          go_wp2_with fail
          go_roundw
          case rel => exact ⟨A ++ [x], B, _, _, HL.out, by simp, (by simpa using BZ1.out), LO1.out, HK5.out, (by simpa using G1.out), G2.out, HK6.out, DD1.out, DD2.out, G3.out⟩
          case measure => simp [intOf]; omega
end Go.Proofs.YtahahginmgidjaaGreatDoor
