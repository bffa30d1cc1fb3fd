/-
  The law FeedRefuses returns true.
-/
import Derived.Test.YtjloddlkleileaaGreatDoorFrfE
import Derived.Test.YtjloddlkleileaaGreatDoorFeeR
import Derived.Deep.RegionHeld3
namespace Go.Proofs.YtjloddlkleileaaGreatDoor
open Go.RowKit
set_option linter.unusedVariables false
set_option linter.unusedSimpArgs false

section
variable {α : Type} {C : Codec α} {w w' : World} {v : Value} {l : List α}
section
variable {a : Act} {Q : Exit → Act → World → Prop} {K : Act → World → Prop} {ops : Array Oper} {o : Oper} {rest : List Oper} {E : Prop}
theorem run_lst_big (hC : C.Ok) (W : World) (ty : TypeId) (L : List α) (v : Value) (p : α) (hv : Lst C W v L) (b : Nat) (hb : Blk W b C.e (C.g p).toArray) (hL : L.length ≤ 4398046511103) (hBy : C.bytes ≤ 32) :
    ∃ v' w', (Builtin.append_ #[C.s, C.s] ty #[v, .slice (some ⟨b, 0, none⟩) 1 1]).run Tryz.prog W = .ok v' w' ∧ Lst C w' v' (L ++ [p]) ∧ Chg (fun k => v.ownBlock = some k) W w' ∧ (∀ k, v'.ownBlock = some k → v.ownBlock = some k ∨ W.heap.size ≤ k) := by
  obtain ⟨i0, hi, hz0, hz1, hz2⟩ := info_parts hC.info
  have hs := hC.small
  obtain ⟨v', w', hr, hown, hg, hk⟩ := run_own_append (P := Tryz.prog) W C.s C.s ty C.e i0 C.zero C.k C.bytes hC.und hi hz0 hz1 hz2 hC.zsize v L.length (L.flatMap C.g) hv (.slice (some ⟨b, 0, none⟩) 1 1) 1 (C.g p)
    (Src.ofSlice W hC.und ⟨b, 0, none⟩ 1 1 _ (by rw [hC.len, Nat.one_mul]) (World.news_of_block (cs := (C.g p).toArray) (t := C.e) (fr := (0, 0)) hb) (hC.one p)) (by unfold maxLen; omega) (by
      have : (L.length + 1) * C.bytes ≤ 4398046511104 * 32 := Nat.mul_le_mul (by omega) hBy
      omega)
  refine ⟨v', w', hr, ?_, chg_grown hg, fun k hk' => ?_⟩
  · unfold Lst
    rw [List.flatMap_append, List.length_append, List.length_singleton]
    simpa using hown
  · rcases hk with e | e
    · exact .inl (by rw [← e]; exact hk')
    · rw [e] at hk'; injection hk' with hk'; right; omega
theorem wp_lst_big (hC : C.Ok) (W : World) (s x : Operand) (ho : o.op = .call { callee := .builtin .append, args := #[s, x], argTypes := #[C.s, C.s] }) (L : List α) (v : Value) (p : α) (hs : a.eval s = v) (hv : Lst C W v L)
    (b : Nat) (hx : a.eval x = .slice (some ⟨b, 0, none⟩) 1 1) (hL : L.length ≤ 4398046511103) (hBy : C.bytes ≤ 32) (hb : Blk W b C.e (C.g p).toArray)
    (h : ∀ v' w', Lst C w' v' (L ++ [p]) → Chg (fun k => v.ownBlock = some k) W w' → (∀ k, v'.ownBlock = some k → v.ownBlock = some k ∨ W.heap.size ≤ k) → K (a.put o.dst v') w') : Oper.wp Tryz.prog o a W K Q := by
  obtain ⟨v', w', hr, h2, h3, h4⟩ := run_lst_big hC W o.type L v p hv b hb hL hBy
  unfold Oper.wp execOp
  simp only [ho, resolve, invoke, builtin, Sem.run_bind, Sem.run_pure, Result.andThen_ok, List.map_toArray, List.map_cons, List.map_nil, hs, hx, hr]
  exact h v' w' h2 h3 h4
/-- .. at a step of a region that draws its order. -/
theorem step_lst_big (hC : C.Ok) (W : World) (hgd : o.guard = none) (s x : Operand) (ho : o.op = .call { callee := .builtin .append, args := #[s, x], argTypes := #[C.s, C.s] }) (L : List α) (v : Value) (p : α) (hs : a.eval s = v) (hv : Lst C W v L)
    (b : Nat) (hx : a.eval x = .slice (some ⟨b, 0, none⟩) 1 1) (hL : L.length ≤ 4398046511103) (hBy : C.bytes ≤ 32) (hb : Blk W b C.e (C.g p).toArray)
    (h : ∀ v' w', Lst C w' v' (L ++ [p]) → Chg (fun k => v.ownBlock = some k) W w' → (∀ k, v'.ownBlock = some k → v.ownBlock = some k ∨ W.heap.size ≤ k) → K (a.put o.dst v') w') :
    if Region.wanted o (yielded ops a.tmps) = true then Oper.wp Tryz.prog o a W K Q else E := by
  have hw : Region.wanted o (yielded ops a.tmps) = true := by simp [Region.wanted, hgd]
  rw [if_pos hw]
  exact wp_lst_big hC W s x ho L v p hs hv b hx hL hBy hb h
end
end
section
variable {a : Act} {Q : Exit → Act → World → Prop} {K : Act → World → Prop} {ops : Array Oper} {o : Oper} {rest : List Oper} {E : Prop}
theorem step_aB (w0 W : World) (hgd : o.guard = none) (s x : Operand) (ho : o.op = .call { callee := .builtin .append, args := #[s, x], argTypes := #[26, 26] }) (A : List ItemV) (v : Value) (p : ItemV) (vb : Value) (B : List ItemV) (hs : a.eval s = v) (hv : TwoL w0 W v A vb B)
    (b : Nat) (hx : a.eval x = .slice (some ⟨b, 0, none⟩) 1 1) (hL : A.length ≤ 4398046511103) (hb : Blk W b 56 (itemG p).toArray)
    (h : ∀ v' w', TwoL w0 w' v' (A ++ [p]) vb B → (∀ g t cs, Blk W g t cs → t ≠ 56 → Blk w' g t cs) → W.heap.size ≤ w'.heap.size → K (a.put o.dst v') w') :
    if Region.wanted o (yielded ops a.tmps) = true then Oper.wp Tryz.prog o a W K Q else E :=
  step_lst_big itemOk W hgd s x ho A v p hs hv.a b hx hL (by decide) hb fun v' w' h2 h3 h4 => by
    have hne : ∀ g t cs, Blk W g t cs → t ≠ 56 → ¬ v.ownBlock = some g := fun g t cs hB ht e => by
      obtain ⟨cs', hB'⟩ := hv.a.typed e
      exact hB.ne_ hB' ht rfl
    refine h v' w' ⟨h2, hv.b.chg h3 fun k hk e => ?_, fun k hk => ?_, hv.kb, hv.chg.trans h3 fun k hk e => ?_⟩ (fun g t cs hB ht => hB.chg h3 (hne g t cs hB ht)) h3.size
    · obtain ⟨cs, hB⟩ := hv.b.typed hk
      exact hne k _ _ hB (by decide) e
    · rcases h4 k hk with e | e
      · exact hv.ka k e
      · have := hv.chg.size; omega
    · have := hv.ka k e; omega
theorem step_bB (w0 W : World) (hgd : o.guard = none) (s x : Operand) (ho : o.op = .call { callee := .builtin .append, args := #[s, x], argTypes := #[27, 27] }) (B : List ItemV) (v : Value) (p : ItemV) (va : Value) (A : List ItemV) (hs : a.eval s = v) (hv : TwoL w0 W va A v B)
    (b : Nat) (hx : a.eval x = .slice (some ⟨b, 0, none⟩) 1 1) (hL : B.length ≤ 4398046511103) (hb : Blk W b 57 (itemG p).toArray)
    (h : ∀ v' w', TwoL w0 w' va A v' (B ++ [p]) → (∀ g t cs, Blk W g t cs → t ≠ 57 → Blk w' g t cs) → W.heap.size ≤ w'.heap.size → K (a.put o.dst v') w') :
    if Region.wanted o (yielded ops a.tmps) = true then Oper.wp Tryz.prog o a W K Q else E :=
  step_lst_big docOk2 W hgd s x ho B v p hs hv.b b hx hL (by decide) hb fun v' w' h2 h3 h4 => by
    have hne : ∀ g t cs, Blk W g t cs → t ≠ 57 → ¬ v.ownBlock = some g := fun g t cs hB ht e => by
      obtain ⟨cs', hB'⟩ := hv.b.typed e
      exact hB.ne_ hB' ht rfl
    refine h v' w' ⟨hv.a.chg h3 fun k hk e => ?_, h2, hv.ka, fun k hk => ?_, hv.chg.trans h3 fun k hk e => ?_⟩ (fun g t cs hB ht => hB.chg h3 (hne g t cs hB ht)) h3.size
    · obtain ⟨cs, hB⟩ := hv.a.typed hk
      exact hne k _ _ hB (by decide) e
    · rcases h4 k hk with e | e
      · exact hv.kb k e
      · have := hv.chg.size; omega
    · have := hv.kb k e; omega
end
set_option maxRecDepth 100000 in
set_option maxHeartbeats 4000000 in
theorem lf_bothB (v : Value) (l : List ItemV) (w : World) (hR : ReadItems w v l) (hlen : l.length ≤ 4398046511103) : Calls Tryz.prog 4 #[v] w fun e w' => ∃ va vb, e = .returned (.tuple #[va, vb]) ∧ TwoL w w' va l vb l := by
  obtain ⟨a, cap, rfl, h1, h2, hread⟩ := hR
  have HREAD := Lib.hid hread
  clear hread
  go_enter Tryz.func4, Tryz.ntmps4
  go_wp2_with fail
  go_loopw [4, 5, 10] (fun va vb i wr => ∃ A R, l = A ++ R ∧ i = .int .i64 (A.length : Int) ∧ TwoL w wr va A vb A) (fun _ _ i _ => l.length - (intOf i).toNat)
  case atStart => exact ⟨[], l, rfl, rfl, Lst.nil _ _, Lst.nil _ _, by simp [Value.ownBlock], by simp [Value.ownBlock], Chg.refl _ _⟩
  case round =>
    obtain ⟨A, R, hl, rfl, hT⟩ := hrel
    obtain ⟨xa, xc, rfl, _⟩ := item_form hT.a
    obtain ⟨ya, yc, rfl, _⟩ := doc2_form hT.b
    have hAl : A.length ≤ l.length := by rw [hl]; simp
    have HT := Lib.hid hT
    obtain ⟨wq, rfl⟩ : ∃ wq : World, wq = wr := ⟨_, rfl⟩
    clear hT
    cases R with
    | nil =>
      have hge : ¬ ((A.length : Int) < (l.length : Int)) := by rw [hl]; simp
      have hE : l = A := by rw [hl]; simp
      have HE := Lib.hid hE
      clear hl hE
      go_wp2_with fail
      go_ret2
      exact ⟨_, _, rfl, by rw [HE.out]; exact HT.out⟩
    | cons x R =>
      have hlt : (A.length : Int) < (l.length : Int) := by rw [hl]; simp; omega
      obtain ⟨b, off, rfl, hb, z0, z1, z2, z3⟩ := HREAD.out A x R hl
      have y0 := kg_chg HT.out.chg z0
      have y1 := kg_chg HT.out.chg z1
      have y2 := kg_chg HT.out.chg z2
      have y3 := kg_chg HT.out.chg z3
      have hl2 : l = (A ++ [x]) ++ R := by rw [hl]; simp
      have HL2 := Lib.hid hl2
      have hge : (0 : Int) ≤ (A.length : Int) := by omega
      clear hl hl2 z0 z1 z2 z3 hb
      obtain ⟨w2, hw2⟩ : ∃ w2, w2 = wq.alloc (.cells #[.bool x.mark, .int .i64 x.time, .int .u8 (x.kind.toNat : Int), .int .i64 x.val] 55) := ⟨_, rfl⟩
      obtain ⟨g, hg⟩ : ∃ g, wq.heap.size = g := ⟨_, rfl⟩
      have hb2 : Blk w2 g 55 #[.bool x.mark, .int .i64 x.time, .int .u8 (x.kind.toNat : Int), .int .i64 x.val] := by rw [hw2, ← hg]; exact Blk.new _ _ _
      have hT2 : TwoL w w2 (.slice xa A.length xc) A (.slice ya A.length yc) A := HT.out.same (by rw [hw2]; ((repeat (first | exact Chg.refl _ _ | assumption | refine Chg.drewN ?_ _ | refine Chg.drew ?_ | refine Chg.alloc ?_ _ | refine Chg.setCell ?_ (by first | (simp; done) | (simp; omega) | (intro h; simp at h; omega)) _))))
      have HW2 := Lib.hid hw2
      have HT2 := Lib.hid hT2
      have HB2 := Lib.hid hb2
      clear hw2 hb2 hT2
      go_upto_region 6 with fail
      rw [← HW2.out]
      clear y0 y1 y2 y3
      go_region_held3 (fun w' => Blk w' g 55 #[.bool x.mark, .int .i64 x.time, .int .u8 (x.kind.toNat : Int), .int .i64 x.val] ∧ w'.cell? ⟨g, 0, none⟩ = some (.bool x.mark) ∧ w'.cell? ⟨g, 1, none⟩ = some (.int .i64 x.time) ∧ w'.cell? ⟨g, 2, none⟩ = some (.int .u8 (x.kind.toNat : Int)) ∧ w'.cell? ⟨g, 3, none⟩ = some (.int .i64 x.val))
        ((go_split_ands; (try dsimp only); have hBx := HB2.out; refine (fun h => ⟨h, by have := h.cell 0; simpa using this, by have := h.cell 1; simpa using this, by have := h.cell 2; simpa using this, by have := h.cell 3; simpa using this⟩) ?_; (repeat (first | with_reducible assumption | with_reducible refine Blk.drew ?_ | with_reducible refine Blk.alloc ?_ _ | with_reducible refine hBa _ _ _ ?_ (by decide) | with_reducible refine hBb _ _ _ ?_ (by decide)))))
        (first
          | (refine step_aB w _ (by rfl) _ _ (by rfl) A (.slice xa A.length xc) x _ _ (by rfl) (by first | (refine HT2.out.same ?_; ((repeat (first | exact Chg.refl _ _ | assumption | refine Chg.drewN ?_ _ | refine Chg.drew ?_ | refine Chg.alloc ?_ _ | refine Chg.setCell ?_ (by first | (simp; done) | (simp; omega) | (intro h; simp at h; omega)) _))); done) | (refine HTb.out.same ?_; ((repeat (first | exact Chg.refl _ _ | assumption | refine Chg.drewN ?_ _ | refine Chg.drew ?_ | refine Chg.alloc ?_ _ | refine Chg.setCell ?_ (by first | (simp; done) | (simp; omega) | (intro h; simp at h; omega)) _))); done)) _ (by rfl) (by omega) (by show Blk _ _ 56 #[.bool x.mark, .int .i64 x.time, .int .u8 (x.kind.toNat : Int), .int .i64 x.val]; repeat (first | with_reducible exact Blk.new _ _ _ | with_reducible exact Blk.new1 _ _ _ _ | with_reducible refine Blk.drew ?_ | with_reducible refine Blk.alloc ?_ _ | with_reducible refine hBb _ _ _ ?_ (by decide))) ?_; intro v' w5 hT5 hBa hs5; obtain ⟨a5, p5, rfl, _⟩ := item_form hT5.a; rw [show (A ++ [x]).length = A.length + 1 by simp] at hT5 ⊢; have HTa := Lib.hid hT5; clear hT5)
          | (refine step_bB w _ (by rfl) _ _ (by rfl) A (.slice ya A.length yc) x _ _ (by rfl) (by first | (refine HT2.out.same ?_; ((repeat (first | exact Chg.refl _ _ | assumption | refine Chg.drewN ?_ _ | refine Chg.drew ?_ | refine Chg.alloc ?_ _ | refine Chg.setCell ?_ (by first | (simp; done) | (simp; omega) | (intro h; simp at h; omega)) _))); done) | (refine HTa.out.same ?_; ((repeat (first | exact Chg.refl _ _ | assumption | refine Chg.drewN ?_ _ | refine Chg.drew ?_ | refine Chg.alloc ?_ _ | refine Chg.setCell ?_ (by first | (simp; done) | (simp; omega) | (intro h; simp at h; omega)) _))); done)) _ (by rfl) (by omega) (by show Blk _ _ 57 #[.bool x.mark, .int .i64 x.time, .int .u8 (x.kind.toNat : Int), .int .i64 x.val]; repeat (first | with_reducible exact Blk.new _ _ _ | with_reducible exact Blk.new1 _ _ _ _ | with_reducible refine Blk.drew ?_ | with_reducible refine Blk.alloc ?_ _ | with_reducible refine hBa _ _ _ ?_ (by decide))) ?_; intro v' w6 hT6 hBb hs6; obtain ⟨a6, p6, rfl, _⟩ := doc2_form hT6.b; rw [show (A ++ [x]).length = A.length + 1 by simp] at hT6 ⊢; have HTb := Lib.hid hT6; clear hT6))
      all_goals
        clear hBa hBb
        go_wp2_with fail
        go_roundw
        case rel => exact ⟨A ++ [x], R, HL2.out, by simp, by first | exact HTb.out | exact HTa.out⟩
        case measure => simp [intOf]; omega
theorem DkB.al {w : World} {d : Nat} (h : DkB w d) (o : Obj) : DkB (w.alloc o) d := by
  obtain ⟨v0, v1, v2, v3, v4, v5, v6, v7, v8, v9, v10, v11, hb⟩ := h
  exact ⟨v0, v1, v2, v3, v4, v5, v6, v7, v8, v9, v10, v11, hb.alloc o⟩
theorem DkB.dr {w : World} {d : Nat} (h : DkB w d) : DkB w.drew d := by
  obtain ⟨v0, v1, v2, v3, v4, v5, v6, v7, v8, v9, v10, v11, hb⟩ := h
  exact ⟨v0, v1, v2, v3, v4, v5, v6, v7, v8, v9, v10, v11, hb.drew⟩
theorem disk_fresh2 (w : World) : Calls Tryz.prog 11 #[.int .i64 1073741824] w fun e w' => ∃ d, e = .returned (.pointer (some ⟨d, 0, none⟩)) ∧ DkB w' d ∧ Chg (fun _ => False) w w' ∧ w.heap.size ≤ d :=
  (disk_fresh w).mono fun e w' ⟨he, hd, hc⟩ => ⟨_, he, hd, hc, by omega⟩
theorem fc_ne {w w' : World} {p : Addr} {v : Value} {d : Nat} (hc : Chg (fun k => k = d) w w') (hp : p.block ≠ d) (h : w.cell? p = some v) : w'.cell? p = some v := (hc.cell (World.block_lt_of_cell? w p h) hp).trans h
theorem fd_play_no2 (d b : Nat) (iv : Value) (c0 c1 c2 c3 c4 l0 l1 l2 : Int) (va : Option Addr) (vn vc : Nat) (s : ByteArray) (V : Int) (hV : V = textBad s.data.toList) (hb : V ≠ 0) (w : World) (hD : DkB w d) (hL : Blk w b 52 #[.int .i64 1, .int .i64 0, .slice none 0 0]) :
    Calls Tryz.prog 7 #[.pointer (some ⟨d, 0, none⟩), .agg #[.int .i64 c0, .int .i64 c1, .int .i64 c2, .int .i64 c3, .int .i64 c4, .int .i64 l0, .int .i64 l1, .int .i64 l2, .slice va vn vc], .string s, iv, .slice (some ⟨b, 0, none⟩) 1 1] w fun e w' => e = .returned (.tuple #[.slice none 0 0, .int .i64 1, .int .i64 V]) ∧ Chg (fun k => k = d) w w' :=
  fd_play_no d b iv c0 c1 c2 c3 c4 l0 l1 l2 va vn vc s V hV hb w hD hL (by
    obtain ⟨v0, v1, v2, v3, v4, v5, v6, v7, v8, v9, v10, v11, hb⟩ := hD
    exact hL.ne_ hb (by decide))
set_option maxRecDepth 100000 in
set_option maxHeartbeats 8000000 in
theorem feed_refuses (s : ByteArray) (v : Value) (l : List ItemV) (n0 n1 n2 n3 n4 n5 n6 : Int) (h0 : -9223372036854775808 ≤ n0 ∧ n0 ≤ 9223372036854775807) (h1 : -9223372036854775808 ≤ n1 ∧ n1 ≤ 9223372036854775807) (h2 : -9223372036854775808 ≤ n2 ∧ n2 ≤ 9223372036854775807) (h3 : -9223372036854775808 ≤ n3 ∧ n3 ≤ 9223372036854775807) (cv : Value) (L : List Int) (w : World) (hR : ReadItems w v l) (hlen : l.length ≤ 4398046511103) (hv : CInts w cv L) (ht : Tab w) (he : ErrOk w) (hm : MaxOk w) :
    Calls Tryz.prog 3 #[.string s, v, .agg #[.int .i64 n0, .int .i64 n1, .int .i64 n2, .int .i64 n3, .int .i64 n4, .int .i64 n5, .int .i64 n6, cv]] w fun e w' => e = .returned (.bool true) ∧ Chg (fun _ => False) w w' := by
  obtain ⟨ca, cc, rfl, _, _, _⟩ := id hv
  obtain ⟨ra, rc, rfl, _, _, _⟩ := id hR
  obtain ⟨V, hV⟩ : ∃ V, V = textBad s.data.toList := ⟨_, rfl⟩
  obtain ⟨t, htt⟩ : ∃ t, t = decide (V = 0) := ⟨_, rfl⟩
  obtain ⟨g, hg⟩ : ∃ g, w.heap.size = g := ⟨_, rfl⟩
  obtain ⟨w1, hw1⟩ : ∃ w1, w1 = w.alloc (.cells #[.int .i64 n0, .int .i64 n1, .int .i64 n2, .int .i64 n3, .int .i64 n4, .int .i64 n5, .int .i64 n6, .slice ca L.length cc] 25) := ⟨_, rfl⟩
  have hc1 : Chg (fun _ => False) w w1 := by rw [hw1]; ((repeat (first | exact Chg.refl _ _ | assumption | refine Chg.drewN ?_ _ | refine Chg.drew ?_ | refine Chg.alloc ?_ _ | refine Chg.setCell ?_ (by first | (simp; done) | (simp; omega) | (intro h; simp at h; omega)) _)))
  have hb1 : Blk w1 g 25 #[.int .i64 n0, .int .i64 n1, .int .i64 n2, .int .i64 n3, .int .i64 n4, .int .i64 n5, .int .i64 n6, .slice ca L.length cc] := by rw [hw1, ← hg]; exact Blk.new _ _ _
  have hR1 : ReadItems w1 (.slice ra l.length rc) l := by
    obtain ⟨a, cap, e, h1, h2, h3⟩ := hR
    refine ⟨a, cap, e, h1, h2, fun A x B hl => ?_⟩
    obtain ⟨b, off, ea, hb, y0, y1, y2, y3⟩ := h3 A x B hl
    exact ⟨b, off, ea, by have := hc1.size; omega, kg_chg hc1 y0, kg_chg hc1 y1, kg_chg hc1 y2, kg_chg hc1 y3⟩
  have hbo := lf_bothB _ l w1 hR1 hlen
  have hcf := fun W (hW : Chg (fun _ => False) w1 W) => lf_config n0 n1 n2 n3 n4 n5 n6 h0 h1 h2 h3 (.slice ca L.length cc) L W ((hv.same hc1).same hW)
  have hwk := fun W (hW : Chg (fun _ => False) w1 W) => lf_wakes W ((ht.chg hc1).chg hW) ((he.chg hc1).chg hW) ((hm.chg hc1).chg hW)
  have hpl := fun W => lf_planned s t (by rw [htt, hV]) W
  have HW1 := Lib.hid hw1
  have HC1 := Lib.hid hc1
  have HBO := Lib.hid hbo
  have HCF := Lib.hid hcf
  have HWK := Lib.hid hwk
  have HPL := Lib.hid hpl
  have HB1 := Lib.hid hb1
  have HG := Lib.hid hg
  have HTT := Lib.hid htt
  have HV := Lib.hid hV
  clear hw1 hc1 hbo hcf hwk hpl hb1 hg htt hV
  clear hR1 hR hv ht he hm h0 h1 h2 h3 hlen
  go_enter Tryz.func3, Tryz.ntmps3
  go_upto_region 1 with fail
  rw [← HW1.out, HG.out]
  go_wp2_with fail
  refine HBO.out.mono ?_
  rintro e w2 ⟨va, vb, rfl, hT⟩
  obtain ⟨xa, xc, rfl, _⟩ := item_form hT.a
  obtain ⟨ya, yc, rfl, _⟩ := doc2_form hT.b
  have hc2 := hT.chg
  have hd2 := fd_drive_nil (.slice xa l.length xc) w2
  have hm2 := fun W => fd_matches_nil W
  have HC2 := Lib.hid hc2
  have HD2 := Lib.hid hd2
  have HM2 := Lib.hid hm2
  clear hc2 hd2 hm2
  clear hT
  go_wp2_with fail
  refine HD2.out.mono ?_
  rintro e w3 ⟨rfl, h3⟩
  have hc3 := HC2.out.then h3
  have HC3 := Lib.hid hc3
  clear hc3
  clear h3
  go_wp2_with fail
  refine (HM2.out w3).mono ?_
  rintro e w4 ⟨rfl, h4⟩
  have hc4 := HC3.out.then h4
  have hb4 := HB1.out.chg hc4 (by simp)
  have hcf4 := HCF.out w4 hc4
  have y0 := hb4.cell 0
  have y1 := hb4.cell 1
  have y2 := hb4.cell 2
  have y3 := hb4.cell 3
  have y4 := hb4.cell 4
  have y5 := hb4.cell 5
  have y6 := hb4.cell 6
  have y7 := hb4.cell 7
  simp at y0 y1 y2 y3 y4 y5 y6 y7
  have HC4 := Lib.hid hc4
  have HCF4 := Lib.hid hcf4
  clear hc4 hcf4
  clear h4 hb4
  go_wp2_with fail
  refine HCF4.out.mono ?_
  rintro e w5 ⟨⟨c0, c1, c2, c3, c4, k0, k1, k2, ja, jn, jc, rfl⟩, h5⟩
  have hc5 := HC4.out.then h5
  have hp5 := fd_play_nil c0 c1 c2 c3 c4 k0 k1 k2 ja jn jc (.string s) (.slice xa l.length xc) (.slice none 0 0) w5
  have HC5 := Lib.hid hc5
  have HP5 := Lib.hid hp5
  clear hc5 hp5
  clear h5 y0 y1 y2 y3 y4 y5 y6 y7
  go_wp2_with fail
  refine HP5.out.mono ?_
  rintro e w6 ⟨rfl, h6⟩
  have hc6 := HC5.out.then h6
  have hwk6 := HWK.out w6 hc6
  have HC6 := Lib.hid hc6
  have HWK6 := Lib.hid hwk6
  clear hc6 hwk6
  clear h6
  go_wp2_with fail
  refine HWK6.out.mono ?_
  rintro e w7 ⟨rfl, h7⟩
  have hc7 := HC6.out.then h7
  have hpl7 := HPL.out w7
  have HC7 := Lib.hid hc7
  have HPL7 := Lib.hid hpl7
  clear hc7 hpl7
  clear h7
  go_wp2_with fail
  refine HPL7.out.mono ?_
  rintro e w8 ⟨⟨pa, pn, pc, pm, rfl⟩, h8⟩
  have hc8 := HC7.out.then h8
  obtain ⟨w9, hw9⟩ : ∃ w9, w9 = w8.alloc (.cells #[.slice pa pn pc, .int .i64 pm] 46) := ⟨_, rfl⟩
  have hc89 : Chg (fun _ => False) w8 w9 := by rw [hw9]; ((repeat (first | exact Chg.refl _ _ | assumption | refine Chg.drewN ?_ _ | refine Chg.drew ?_ | refine Chg.alloc ?_ _ | refine Chg.setCell ?_ (by first | (simp; done) | (simp; omega) | (intro h; simp at h; omega)) _)))
  have hc9 := hc8.then hc89
  cases t with
  | true =>
    have HC9 := Lib.hid hc9
    have HW9 := Lib.hid hw9
    clear hc9 hw9
    clear h8 hc8 hc89
    go_upto_region 8 with fail
    rw [← HW9.out]
    go_wp2_with fail
    go_ret
    exact ⟨rfl, HC1.out.then HC9.out⟩
  | false =>
    have hV0 : V ≠ 0 := of_decide_eq_false HTT.out.symm
    have q0 : decide (V = 0) = false := decide_eq_false hV0
    have q1 : (V != 0) = true := by simp [hV0]
    have hb9 := HB1.out.chg hc9 (by simp)
    have hg9 : g < w9.heap.size := hb9.lt
    have y0 := hb9.cell 0
    have y1 := hb9.cell 1
    have y2 := hb9.cell 2
    have y3 := hb9.cell 3
    have y4 := hb9.cell 4
    have y5 := hb9.cell 5
    have y6 := hb9.cell 6
    have y7 := hb9.cell 7
    simp at y0 y1 y2 y3 y4 y5 y6 y7
    have HC9 := Lib.hid hc9
    have HW9 := Lib.hid hw9
    have HV0 := Lib.hid hV0
    clear hc9 hw9 hV0
    clear h8 hc8 hc89 hb9 q0
    go_upto_region 8 with fail
    rw [← HW9.out]
    go_wp2_with fail
    go_region_held3 (fun w' => w'.cell? ⟨g, 0, none⟩ = some (.int .i64 n0) ∧ w'.cell? ⟨g, 1, none⟩ = some (.int .i64 n1) ∧ w'.cell? ⟨g, 2, none⟩ = some (.int .i64 n2) ∧ w'.cell? ⟨g, 3, none⟩ = some (.int .i64 n3) ∧ w'.cell? ⟨g, 4, none⟩ = some (.int .i64 n4) ∧ w'.cell? ⟨g, 5, none⟩ = some (.int .i64 n5) ∧ w'.cell? ⟨g, 6, none⟩ = some (.int .i64 n6) ∧ w'.cell? ⟨g, 7, none⟩ = some (.slice ca L.length cc))
      ((go_split_ands; (try dsimp only); (repeat' with_reducible apply And.intro) <;> (repeat (first | with_reducible assumption | with_reducible refine fc_drew ?_ | with_reducible refine fc_alloc _ ?_ | with_reducible refine fc_set (by simp <;> omega) ?_ | with_reducible refine fc_ne h18 (by simp <;> omega) ?_ | with_reducible refine kg_chg h17 ?_ | with_reducible refine kg_chg h16 ?_))))
      ((first
        | (go_at_call 11; (refine (disk_fresh2 _).mono ?_); rintro e w16 ⟨d, rfl, hD16, h16, hd16⟩; have hs16 : w9.heap.size ≤ d := Nat.le_trans (Chg.size (S := fun _ => False) (by (repeat (first | with_reducible assumption | with_reducible exact Chg.refl _ _ | with_reducible refine Chg.drew ?_ | with_reducible refine Chg.alloc ?_ _ | with_reducible refine Chg.then ?_ h17 | with_reducible refine Chg.then ?_ h16)))) hd16; have HD16 := Lib.hid hD16; clear hD16 hd16)
        | (go_at_call 8; (refine (HCF.out _ (Chg.then HC9.out (by (repeat (first | with_reducible assumption | with_reducible exact Chg.refl _ _ | with_reducible refine Chg.drew ?_ | with_reducible refine Chg.alloc ?_ _ | with_reducible refine Chg.then ?_ h17 | with_reducible refine Chg.then ?_ h16))))).mono ?_); rintro e w17 ⟨⟨b0, b1, b2, b3, b4, i0, i1, i2, ja', jn', jc', rfl⟩, h17⟩)
        | (go_at_call 7; (refine (fd_play_no2 d _ _ _ _ _ _ _ _ _ _ _ _ _ s V HV.out HV0.out _ (by (repeat (first | with_reducible exact HD16.out | with_reducible refine DkB.al ?_ _ | with_reducible refine DkB.dr ?_ | with_reducible refine DkB.chg ?_ h17 (by simp)))) (by show Blk _ _ 52 #[.int .i64 1, .int .i64 0, .slice none 0 0]; (repeat (first | with_reducible exact Blk.new _ _ _ | with_reducible refine Blk.drew ?_ | with_reducible refine Blk.alloc ?_ _ | with_reducible refine Blk.chg ?_ h17 (by simp) | with_reducible refine Blk.chg ?_ h16 (by simp))))).mono ?_); rintro e w18 ⟨rfl, h18⟩; have hc18 : Chg (fun _ => False) w9 w18 := (Chg.trans (by (repeat (first | with_reducible assumption | with_reducible exact Chg.refl _ _ | with_reducible refine Chg.drew ?_ | with_reducible refine Chg.alloc ?_ _ | with_reducible refine Chg.then ?_ h17 | with_reducible refine Chg.then ?_ h16))) h18 fun k hk e => by have : k = d := e; omega); have HC18 := Lib.hid hc18; clear hc18)))
    all_goals
      go_wp2_with fail
      go_ret
      exact ⟨rfl, (HC1.out.then HC9.out).then HC18.out⟩
end Go.Proofs.YtjloddlkleileaaGreatDoor
