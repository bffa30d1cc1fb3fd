/-
  Words for the walk of PickFits: a list of numbers put behind another one, at a step of a region that draws; the job's edit, once it is stored. Plain lemmas; no condition.
-/
import Derived.Test.YtkhgfmmcjoglkaaPickD
import Derived.Test.YtkhgfmmcjoglkaaPickO
import Derived.Test.YtkhgfmmcjoglkaaVerKa
import Derived.Test.YtkhgfmmcjoglkaaVerE
namespace Go.Proofs.Ytkhgfmmcjoglkaa
open Go.RowKit
set_option linter.unusedVariables false
set_option linter.unusedSimpArgs false

theorem Lst.ints {w : World} {v : Value} {l : List Int} (h : Lst i64C w v l) : ReadInts w v l := by
  obtain ⟨a, cap, rfl, h1, h2, h3⟩ := i64_form h
  refine ⟨a, cap, rfl, h1, h2, fun hne => ?_⟩
  have each : ∀ i y, l[i]? = some y → l = l.take i ++ y :: l.drop (i + 1) ∧ (l.take i).length = i := fun i y hy => by
    obtain ⟨hi, e⟩ := List.getElem?_eq_some_iff.1 hy
    refine ⟨?_, by rw [List.length_take]; omega⟩
    rw [← e, ← List.drop_eq_getElem_cons, List.take_append_drop]
  obtain ⟨x, r, hl⟩ : ∃ x r, l = x :: r := by
    cases l with
    | nil => exact absurd rfl hne
    | cons x r => exact ⟨x, r, rfl⟩
  obtain ⟨b, rfl, hb, _, _⟩ := h3 [] x r hl
  refine ⟨b, 0, rfl, hb, fun i y hy => ?_⟩
  obtain ⟨e1, e2⟩ := each i y hy
  obtain ⟨b', e, _, _, hc⟩ := h3 _ y _ e1
  cases e
  rw [e2] at hc
  rw [Nat.zero_add]
  exact hc
section
variable {a : Act} {Q : Exit → Act → World → Prop} {K : Act → World → Prop} {ops : Array Oper} {o : Oper} {rest : List Oper} {E : Prop}
/-- append(l, m...), at a step of a region that draws. -/
theorem step_join (W : World) (hgd : o.guard = none) (s x : Operand) (ho : o.op = .call { callee := .builtin .append, args := #[s, x], argTypes := #[35, 35] }) (L M : List Int) (u v : Value) (hs : a.eval s = u) (hx : a.eval x = v) (hu : Lst i64C W u L) (hv : ReadInts W v M) (hL : L.length ≤ 500000000) (hM : M.length ≤ 500000000)
    (h : ∀ v' w', Lst i64C w' v' (L ++ M) → Chg (fun k => u.ownBlock = some k) W w' → (∀ k, v'.ownBlock = some k → u.ownBlock = some k ∨ W.heap.size ≤ k) → K (a.put o.dst v') w') :
    if Region.wanted o (yielded ops a.tmps) = true then Oper.wp Try.prog o a W K Q else E := by
  obtain ⟨i0, hi, hz0, hz1, hz2⟩ := info_parts i64Ok.info
  refine step_own_append W hgd s x _ _ ho 2 i0 (.int .i64 0) 1 8 Try.underlying35 hi hz0 hz1 hz2 rfl u L.length (L.flatMap i64C.g) hs hu v M.length (M.flatMap i64C.g) hx hv.src (by unfold maxLen; omega) (by omega) fun v' w' hown hg hk => ?_
  refine h v' w' ?_ (chg_grown hg) fun k hk' => ?_
  · show Own w' _ _ v' (L ++ M).length ((L ++ M).flatMap i64C.g)
    rw [List.length_append, List.flatMap_append]
    exact hown
  · rcases hk with e | e
    · rw [e] at hk'; exact .inl hk'
    · rw [e] at hk'; injection hk' with hk'; exact .inr (by omega)
end
theorem fits_put {w W : World} {g gA : Nat} {a b c d e a8 a' : Value} {l n s : Int} {v : Value} {D : List Int} {p : PlaceV} (hz : Blk w g 49 #[a, b, c, d, e]) (hA : Blk w gA 46 (prow p).toArray) (hD : Lst i64C w v D) (hW : Chg (fun _ => False) W w) (hg : W.heap.size ≤ g)
    (ha : a' = .slice (some ⟨gA, 0, none⟩) 1 1) :
    Blk (((((w.setCell ⟨g, 0, none⟩ a').setCell ⟨g, 1, none⟩ v).setCell ⟨g, 2, none⟩ (.int .i64 l)).setCell ⟨g, 3, none⟩ (.int .i64 n)).setCell ⟨g, 4, none⟩ (.int .i64 s)) g 49 #[a', v, .int .i64 l, .int .i64 n, .int .i64 s] ∧
    Lst placeC (((((w.setCell ⟨g, 0, none⟩ a').setCell ⟨g, 1, none⟩ v).setCell ⟨g, 2, none⟩ (.int .i64 l)).setCell ⟨g, 3, none⟩ (.int .i64 n)).setCell ⟨g, 4, none⟩ (.int .i64 s)) a' [p] ∧
    Lst i64C (((((w.setCell ⟨g, 0, none⟩ a').setCell ⟨g, 1, none⟩ v).setCell ⟨g, 2, none⟩ (.int .i64 l)).setCell ⟨g, 3, none⟩ (.int .i64 n)).setCell ⟨g, 4, none⟩ (.int .i64 s)) v D ∧
    Chg (fun _ => False) W (((((w.setCell ⟨g, 0, none⟩ a').setCell ⟨g, 1, none⟩ v).setCell ⟨g, 2, none⟩ (.int .i64 l)).setCell ⟨g, 3, none⟩ (.int .i64 n)).setCell ⟨g, 4, none⟩ (.int .i64 s)) := by
  subst ha
  have hc : Chg (fun j => j = g) w (((((w.setCell ⟨g, 0, none⟩ (.slice (some ⟨gA, 0, none⟩) 1 1)).setCell ⟨g, 1, none⟩ v).setCell ⟨g, 2, none⟩ (.int .i64 l)).setCell ⟨g, 3, none⟩ (.int .i64 n)).setCell ⟨g, 4, none⟩ (.int .i64 s)) := by ((repeat (first | with_reducible exact Chg.refl _ _ | with_reducible assumption | with_reducible refine Chg.drewN ?_ _ | with_reducible refine Chg.drew ?_ | with_reducible refine Chg.alloc ?_ _ | with_reducible refine Chg.setCell ?_ (by first | (simp; done) | (simp; omega) | (intro h; simp at h; omega)) _)))
  refine ⟨?_, ?_, hD.chg hc fun k hk e => ?_, hW.own hc hg⟩
  · have h9 := ((((hz.set_ 0 (.slice (some ⟨gA, 0, none⟩) 1 1)).set_ 1 v).set_ 2 (.int .i64 l)).set_ 3 (.int .i64 n)).set_ 4 (.int .i64 s)
    simp at h9
    exact h9
  · have hb := hA.chg hc fun e => by subst e; exact hA.ne_ hz (by decide) rfl
    exact Lst.of_block (l := [p]) placeOk hb (by simp [placeC]) (by simp)
  · subst e
    obtain ⟨cs, hb⟩ := hD.typed hk
    exact hb.ne_ hz (by decide) rfl
/-- The files of a job are numbers of the type. -/
theorem job_i64 {S : VerV} (hS : Fine S) {k : Nat} (hk : k < 3) {x : MetaV} {fr TO : List MetaV} (hsub : (x :: fr).Sublist (S.lv k)) (hTO : oversV S ((k : Int) + 1) (loF x.lo (x :: fr)) (hiF x.hi (x :: fr)) = TO) :
    ∀ f ∈ ((x :: fr) ++ TO).map (·.file), I64 f := fun f hf => by
  obtain ⟨m, hm, rfl⟩ := List.mem_map.1 hf
  have h := job_in hk hsub hTO m hm
  have hnx := hS.nx
  have key : ∀ i, i < 4 → m ∈ S.lv i → I64 m.file := fun i hi hmi => by
    obtain ⟨_, h2, h3⟩ := hS.good.ends i hi m hmi
    unfold I64 at *
    omega
  unfold allM at h
  simp only [List.mem_append] at h
  rcases h with h | h | h | h
  · exact key 0 (by omega) h
  · exact key 1 (by omega) h
  · exact key 2 (by omega) h
  · exact key 3 (by omega) h
theorem blk_past {w w' : World} {g : Nat} {t : TypeId} {cs : Array Value} {v : Value} {l : List Int} (hz : Blk w g t cs) (ht : 2 ≠ t) (hv : Lst i64C w v l) (hc : Chg (fun k => v.ownBlock = some k) w w') : Blk w' g t cs :=
  hz.chg hc fun e => by
    obtain ⟨cs', hb⟩ := hv.typed e
    exact hb.ne_ hz ht rfl
theorem ne_place : (2 : TypeId) ≠ 46 := by decide
theorem ne_edit : (2 : TypeId) ≠ 49 := by decide
section
variable {w w' : World} {g : Nat} {t : TypeId} {cs : Array Value} {o o' : Obj} {v : Value} {l : List Int}
theorem fst_new (hc : Chg (fun _ => False) (w.alloc (.cells cs t)).drew w') : Blk w' w.heap.size t cs := ((Blk.new w t cs).drew).chg hc (by simp)
theorem fst_alloc (hc : Chg (fun _ => False) ((w.alloc (.cells cs t)).alloc o).drew w') : Blk w' w.heap.size t cs := (((Blk.new w t cs).alloc o).drew).chg hc (by simp)
theorem fst_new1 (hc : Chg (fun _ => False) ((w.alloc o).alloc (.cells cs t)).drew w') : Blk w' (w.heap.size + 1) t cs := ((Blk.new1 w o t cs).drew).chg hc (by simp)
theorem past_new (hc : Chg (fun k => v.ownBlock = some k) (w.alloc (.cells cs t)) w') (ht : 2 ≠ t) (hv : Lst i64C w v l) : Blk w' w.heap.size t cs := blk_past (Blk.new w t cs) ht (hv.same ((Chg.refl _ _).alloc _)) hc
theorem past_alloc (hc : Chg (fun k => v.ownBlock = some k) ((w.alloc (.cells cs t)).alloc o) w') (ht : 2 ≠ t) (hv : Lst i64C w v l) : Blk w' w.heap.size t cs := blk_past ((Blk.new w t cs).alloc o) ht (hv.same (((Chg.refl _ _).alloc _).alloc _)) hc
theorem past_new1 (hc : Chg (fun k => v.ownBlock = some k) ((w.alloc o).alloc (.cells cs t)) w') (ht : 2 ≠ t) (hv : Lst i64C w v l) : Blk w' (w.heap.size + 1) t cs := blk_past (Blk.new1 w o t cs) ht (hv.same (((Chg.refl _ _).alloc _).alloc _)) hc
theorem past_old (hz : Blk w g t cs) (hc : Chg (fun k => v.ownBlock = some k) w w') (ht : 2 ≠ t) (hv : Lst i64C w v l) : Blk w' g t cs := blk_past hz ht hv hc
theorem past_old1 (hz : Blk w g t cs) (hc : Chg (fun k => v.ownBlock = some k) (w.alloc o) w') (ht : 2 ≠ t) (hv : Lst i64C w v l) : Blk w' g t cs := blk_past (hz.alloc o) ht (hv.same ((Chg.refl _ _).alloc _)) hc
end
theorem kc_past {w w' : World} {p : Addr} {u v : Value} {B : Nat} (hc : Chg (fun k => B ≤ k) w w') (hp : p.block < B) (h : w.cell? p = some v) : w'.cell? p = some v := (hc.cell (World.block_lt_of_cell? w p h) (by simpa using hp)).trans h
theorem lv_two (S : VerV) {k : Nat} (hk : k < 3) : (S.lv k).length + (S.lv (k + 1)).length ≤ (flat S).length := by
  have h : (flat S).length = (S.lv 0).length + (S.lv 1).length + (S.lv 2).length + (S.lv 3).length := by
    simp [flat, atLevel]; omega
  match k, hk with
  | 0, _ => show (S.lv 0).length + (S.lv 1).length ≤ _; omega
  | 1, _ => show (S.lv 1).length + (S.lv 2).length ≤ _; omega
  | 2, _ => show (S.lv 2).length + (S.lv 3).length ≤ _; omega
/-- Apply of an edit that can be, of whatever length. -/
theorem va_big (S : VerV) (E : EditV) (l0 l1 l2 l3 av dv : Value) (w : World) (hF : Fine S) (hE : EdOk E) (hv : VerAt w (Lv l0 l1 l2 l3) S.lv) (ha : Lst placeC w av E.add) (hd : Lst i64C w dv E.drop) (hl : (flat S).length ≤ 41943040) (hA : E.add.length ≤ 50000000) (hD : E.drop.length ≤ 50000000) (hok : okV S E) :
    Calls Try.prog 7 #[.agg #[l0, l1, l2, l3, .int .i64 S.log, .int .i64 S.next, .int .i64 S.seq], .agg #[av, dv, .int .i64 E.log, .int .i64 E.next, .int .i64 E.seq]] w
      fun e w' => ∃ a0 a1 a2 a3 n0 n1 n2 n3 c0 c1 c2 c3, e = .returned (.tuple #[.agg #[.slice a0 n0 c0, .slice a1 n1 c1, .slice a2 n2 c2, .slice a3 n3 c3, .int .i64 E.log, .int .i64 E.next, .int .i64 E.seq], .int .i64 0]) ∧ Chg (fun _ => False) w w' := by
  refine (ver_apply S E (Lv l0 l1 l2 l3) av dv w hF.good hE hF.nx hv ha hd (fun i hi => by have := lv_len S i hi; omega) hA hD).mono ?_
  rintro e w' ⟨hc, ⟨_, L, rfl, hv, _⟩ | ⟨hno, _⟩⟩
  · obtain ⟨a0, c0, e0, _⟩ := meta_form (hv 0 (by omega))
    obtain ⟨a1, c1, e1, _⟩ := meta_form (hv 1 (by omega))
    obtain ⟨a2, c2, e2, _⟩ := meta_form (hv 2 (by omega))
    obtain ⟨a3, c3, e3, _⟩ := meta_form (hv 3 (by omega))
    exact ⟨_, _, _, _, _, _, _, _, _, _, _, _, by rw [e0, e1, e2, e3], hc⟩
  · exact absurd hok hno
theorem job_edok {S : VerV} (hS : Fine S) {k : Nat} {D : List Int} (hD : ∀ f ∈ D, I64 f) (LO HI : ByteArray) : EdOk (jobE S k D LO HI) :=
  ⟨hD, fun p hp => by
    simp only [jobE, List.mem_singleton] at hp
    subst hp
    exact hS.nx⟩
end Go.Proofs.Ytkhgfmmcjoglkaa
