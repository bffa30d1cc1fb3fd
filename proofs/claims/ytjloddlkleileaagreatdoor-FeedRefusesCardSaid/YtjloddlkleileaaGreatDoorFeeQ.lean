/-
  The law's items: items that came in, as the program's and as the document's.
-/
import Derived.Test.YtjloddlkleileaaGreatDoorFeeH
import Derived.Deep.RegionHeld3
namespace Go.Proofs.YtjloddlkleileaaGreatDoor
open Go.RowKit Go.Shelf
set_option linter.unusedVariables false
set_option linter.unusedSimpArgs false

/-- A slice that came in reads as these items. -/
def ReadItems (w : World) (v : Value) (l : List ItemV) : Prop :=
  ∃ a cap, v = .slice a l.length cap ∧ l.length ≤ cap ∧ l.length ≤ 9223372036854775807 ∧ ∀ A x B, l = A ++ x :: B → ∃ b off, a = some ⟨b, off, none⟩ ∧ b < w.heap.size ∧
    w.cell? ⟨b, off + A.length * 4, none⟩ = some (.bool x.mark) ∧ w.cell? ⟨b, off + A.length * 4 + 1, none⟩ = some (.int .i64 x.time) ∧ w.cell? ⟨b, off + A.length * 4 + 2, none⟩ = some (.int .u8 (x.kind.toNat : Int)) ∧ w.cell? ⟨b, off + A.length * 4 + 3, none⟩ = some (.int .i64 x.val)
/-- Two lists, the program's and the document's, in blocks made since w0. -/
structure TwoL (w0 w : World) (va : Value) (A : List ItemV) (vb : Value) (B : List ItemV) : Prop where
  a : Lst itemC w va A
  b : Lst docC2 w vb B
  ka : ∀ k, va.ownBlock = some k → w0.heap.size ≤ k
  kb : ∀ k, vb.ownBlock = some k → w0.heap.size ≤ k
  chg : Chg (fun _ => False) w0 w
theorem TwoL.same {w0 w w' : World} {va vb : Value} {A B : List ItemV} (h : TwoL w0 w va A vb B) (hc : Chg (fun _ => False) w w') : TwoL w0 w' va A vb B :=
  ⟨h.a.same hc, h.b.same hc, h.ka, h.kb, h.chg.then hc⟩
section
variable {a : Act} {Q : Exit → Act → World → Prop} {K : Act → World → Prop} {ops : Array Oper} {o : Oper} {rest : List Oper} {E : Prop}
theorem step_a (w0 W : World) (hgd : o.guard = none) (s x : Operand) (ho : o.op = .call { callee := .builtin .append, args := #[s, x], argTypes := #[26, 26] }) (A : List ItemV) (v : Value) (p : ItemV) (vb : Value) (B : List ItemV) (hs : a.eval s = v) (hv : TwoL w0 W v A vb B)
    (b : Nat) (hx : a.eval x = .slice (some ⟨b, 0, none⟩) 1 1) (hL : A.length ≤ 1000000000) (hb : Blk W b 56 (itemG p).toArray)
    (h : ∀ v' w', TwoL w0 w' v' (A ++ [p]) vb B → (∀ g t cs, Blk W g t cs → t ≠ 56 → Blk w' g t cs) → W.heap.size ≤ w'.heap.size → K (a.put o.dst v') w') :
    if Region.wanted o (yielded ops a.tmps) = true then Oper.wp Tryz.prog o a W K Q else E :=
  step_lst_app itemOk W hgd s x ho A v p hs hv.a b hx hL hb fun v' w' h2 h3 h4 => by
    have hne : ∀ g t cs, Blk W g t cs → t ≠ 56 → ¬ v.ownBlock = some g := fun g t cs hB ht e => by
      obtain ⟨cs', hB'⟩ := hv.a.typed e
      exact hB.ne_ hB' ht rfl
    refine h v' w' ⟨h2, hv.b.chg h3 fun k hk e => ?_, fun k hk => ?_, hv.kb, hv.chg.trans h3 fun k hk e => ?_⟩ (fun g t cs hB ht => hB.chg h3 (hne g t cs hB ht)) h3.size
    · obtain ⟨cs, hB⟩ := hv.b.typed hk
      exact hne k _ _ hB (by decide) e
    · rcases h4 k hk with e | e
      · exact hv.ka k e
      · have := hv.chg.size; omega
    · have := hv.ka k e; omega
theorem step_b (w0 W : World) (hgd : o.guard = none) (s x : Operand) (ho : o.op = .call { callee := .builtin .append, args := #[s, x], argTypes := #[27, 27] }) (B : List ItemV) (v : Value) (p : ItemV) (va : Value) (A : List ItemV) (hs : a.eval s = v) (hv : TwoL w0 W va A v B)
    (b : Nat) (hx : a.eval x = .slice (some ⟨b, 0, none⟩) 1 1) (hL : B.length ≤ 1000000000) (hb : Blk W b 57 (itemG p).toArray)
    (h : ∀ v' w', TwoL w0 w' va A v' (B ++ [p]) → (∀ g t cs, Blk W g t cs → t ≠ 57 → Blk w' g t cs) → W.heap.size ≤ w'.heap.size → K (a.put o.dst v') w') :
    if Region.wanted o (yielded ops a.tmps) = true then Oper.wp Tryz.prog o a W K Q else E :=
  step_lst_app docOk2 W hgd s x ho B v p hs hv.b b hx hL hb fun v' w' h2 h3 h4 => by
    have hne : ∀ g t cs, Blk W g t cs → t ≠ 57 → ¬ v.ownBlock = some g := fun g t cs hB ht e => by
      obtain ⟨cs', hB'⟩ := hv.b.typed e
      exact hB.ne_ hB' ht rfl
    refine h v' w' ⟨hv.a.chg h3 fun k hk e => ?_, h2, hv.ka, fun k hk => ?_, hv.chg.trans h3 fun k hk e => ?_⟩ (fun g t cs hB ht => hB.chg h3 (hne g t cs hB ht)) h3.size
    · obtain ⟨cs, hB⟩ := hv.a.typed hk
      exact hne k _ _ hB (by decide) e
    · rcases h4 k hk with e | e
      · exact hv.kb k e
      · have := hv.chg.size; omega
    · have := hv.kb k e; omega
end
set_option maxRecDepth 100000 in
set_option maxHeartbeats 4000000 in
theorem lf_both (v : Value) (l : List ItemV) (w : World) (hR : ReadItems w v l) (hlen : l.length ≤ 1000000000) : Calls Tryz.prog 4 #[v] w fun e w' => ∃ va vb, e = .returned (.tuple #[va, vb]) ∧ TwoL w w' va l vb l := by
  obtain ⟨a, cap, rfl, h1, h2, hread⟩ := hR
  have HREAD := Lib.hid hread
  clear hread
  go_enter Tryz.func4, Tryz.ntmps4
  go_wp2_with fail
  go_loopw [4, 5, 10] (fun va vb i wr => ∃ A R, l = A ++ R ∧ i = .int .i64 (A.length : Int) ∧ TwoL w wr va A vb A) (fun _ _ i _ => l.length - (intOf i).toNat)
  case atStart => exact ⟨[], l, rfl, rfl, Lst.nil _ _, Lst.nil _ _, by simp [Value.ownBlock], by simp [Value.ownBlock], Chg.refl _ _⟩
  case round =>
    obtain ⟨A, R, hl, rfl, hT⟩ := hrel
    obtain ⟨xa, xc, rfl, _⟩ := item_form hT.a
    obtain ⟨ya, yc, rfl, _⟩ := doc2_form hT.b
    have hAl : A.length ≤ l.length := by rw [hl]; simp
    have HT := Lib.hid hT
    obtain ⟨wq, rfl⟩ : ∃ wq : World, wq = wr := ⟨_, rfl⟩
    clear hT
    cases R with
    | nil =>
      have hge : ¬ ((A.length : Int) < (l.length : Int)) := by rw [hl]; simp
      have hE : l = A := by rw [hl]; simp
      have HE := Lib.hid hE
      clear hl hE
      go_wp2_with fail
      go_ret2
      exact ⟨_, _, rfl, by rw [HE.out]; exact HT.out⟩
    | cons x R =>
      have hlt : (A.length : Int) < (l.length : Int) := by rw [hl]; simp; omega
      obtain ⟨b, off, rfl, hb, z0, z1, z2, z3⟩ := HREAD.out A x R hl
      have y0 := kg_chg HT.out.chg z0
      have y1 := kg_chg HT.out.chg z1
      have y2 := kg_chg HT.out.chg z2
      have y3 := kg_chg HT.out.chg z3
      have hl2 : l = (A ++ [x]) ++ R := by rw [hl]; simp
      have HL2 := Lib.hid hl2
      have hge : (0 : Int) ≤ (A.length : Int) := by omega
      clear hl hl2 z0 z1 z2 z3 hb
      obtain ⟨w2, hw2⟩ : ∃ w2, w2 = wq.alloc (.cells #[.bool x.mark, .int .i64 x.time, .int .u8 (x.kind.toNat : Int), .int .i64 x.val] 55) := ⟨_, rfl⟩
      obtain ⟨g, hg⟩ : ∃ g, wq.heap.size = g := ⟨_, rfl⟩
      have hb2 : Blk w2 g 55 #[.bool x.mark, .int .i64 x.time, .int .u8 (x.kind.toNat : Int), .int .i64 x.val] := by rw [hw2, ← hg]; exact Blk.new _ _ _
      have hT2 : TwoL w w2 (.slice xa A.length xc) A (.slice ya A.length yc) A := HT.out.same (by rw [hw2]; ((repeat (first | exact Chg.refl _ _ | assumption | refine Chg.drewN ?_ _ | refine Chg.drew ?_ | refine Chg.alloc ?_ _ | refine Chg.setCell ?_ (by first | (simp; done) | (simp; omega) | (intro h; simp at h; omega)) _))))
      have HW2 := Lib.hid hw2
      have HT2 := Lib.hid hT2
      have HB2 := Lib.hid hb2
      clear hw2 hb2 hT2
      go_upto_region 6 with fail
      rw [← HW2.out]
      clear y0 y1 y2 y3
      go_region_held3 (fun w' => Blk w' g 55 #[.bool x.mark, .int .i64 x.time, .int .u8 (x.kind.toNat : Int), .int .i64 x.val] ∧ w'.cell? ⟨g, 0, none⟩ = some (.bool x.mark) ∧ w'.cell? ⟨g, 1, none⟩ = some (.int .i64 x.time) ∧ w'.cell? ⟨g, 2, none⟩ = some (.int .u8 (x.kind.toNat : Int)) ∧ w'.cell? ⟨g, 3, none⟩ = some (.int .i64 x.val))
        ((go_split_ands; (try dsimp only); have hBx := HB2.out; refine (fun h => ⟨h, by have := h.cell 0; simpa using this, by have := h.cell 1; simpa using this, by have := h.cell 2; simpa using this, by have := h.cell 3; simpa using this⟩) ?_; (repeat (first | with_reducible assumption | with_reducible refine Blk.drew ?_ | with_reducible refine Blk.alloc ?_ _ | with_reducible refine hBa _ _ _ ?_ (by decide) | with_reducible refine hBb _ _ _ ?_ (by decide)))))
        (first
          | (refine step_a w _ (by rfl) _ _ (by rfl) A (.slice xa A.length xc) x _ _ (by rfl) (by first | (refine HT2.out.same ?_; ((repeat (first | exact Chg.refl _ _ | assumption | refine Chg.drewN ?_ _ | refine Chg.drew ?_ | refine Chg.alloc ?_ _ | refine Chg.setCell ?_ (by first | (simp; done) | (simp; omega) | (intro h; simp at h; omega)) _))); done) | (refine HTb.out.same ?_; ((repeat (first | exact Chg.refl _ _ | assumption | refine Chg.drewN ?_ _ | refine Chg.drew ?_ | refine Chg.alloc ?_ _ | refine Chg.setCell ?_ (by first | (simp; done) | (simp; omega) | (intro h; simp at h; omega)) _))); done)) _ (by rfl) (by omega) (by show Blk _ _ 56 #[.bool x.mark, .int .i64 x.time, .int .u8 (x.kind.toNat : Int), .int .i64 x.val]; repeat (first | with_reducible exact Blk.new _ _ _ | with_reducible exact Blk.new1 _ _ _ _ | with_reducible refine Blk.drew ?_ | with_reducible refine Blk.alloc ?_ _ | with_reducible refine hBb _ _ _ ?_ (by decide))) ?_; intro v' w5 hT5 hBa hs5; obtain ⟨a5, p5, rfl, _⟩ := item_form hT5.a; rw [show (A ++ [x]).length = A.length + 1 by simp] at hT5 ⊢; have HTa := Lib.hid hT5; clear hT5)
          | (refine step_b w _ (by rfl) _ _ (by rfl) A (.slice ya A.length yc) x _ _ (by rfl) (by first | (refine HT2.out.same ?_; ((repeat (first | exact Chg.refl _ _ | assumption | refine Chg.drewN ?_ _ | refine Chg.drew ?_ | refine Chg.alloc ?_ _ | refine Chg.setCell ?_ (by first | (simp; done) | (simp; omega) | (intro h; simp at h; omega)) _))); done) | (refine HTa.out.same ?_; ((repeat (first | exact Chg.refl _ _ | assumption | refine Chg.drewN ?_ _ | refine Chg.drew ?_ | refine Chg.alloc ?_ _ | refine Chg.setCell ?_ (by first | (simp; done) | (simp; omega) | (intro h; simp at h; omega)) _))); done)) _ (by rfl) (by omega) (by show Blk _ _ 57 #[.bool x.mark, .int .i64 x.time, .int .u8 (x.kind.toNat : Int), .int .i64 x.val]; repeat (first | with_reducible exact Blk.new _ _ _ | with_reducible exact Blk.new1 _ _ _ _ | with_reducible refine Blk.drew ?_ | with_reducible refine Blk.alloc ?_ _ | with_reducible refine hBa _ _ _ ?_ (by decide))) ?_; intro v' w6 hT6 hBb hs6; obtain ⟨a6, p6, rfl, _⟩ := doc2_form hT6.b; rw [show (A ++ [x]).length = A.length + 1 by simp] at hT6 ⊢; have HTb := Lib.hid hT6; clear hT6))
      all_goals
        clear hBa hBb
        go_wp2_with fail
        go_roundw
        case rel => exact ⟨A ++ [x], R, HL2.out, by simp, by first | exact HTb.out | exact HTa.out⟩
        case measure => simp [intOf]; omega
end Go.Proofs.YtjloddlkleileaaGreatDoor
