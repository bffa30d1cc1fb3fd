/-
  The document's list of blocks: Pin, Put.
-/
import Derived.Test.YtafdgncjfiiekaaRefG
namespace Go.Proofs.Ytafdgncjfiiekaa
open Go.RowKit
set_option linter.unusedVariables false
set_option linter.unusedSimpArgs false

theorem ref_pin_miss (r rb : Nat) (v : Value) (L : List Node) (B : Bud) (f b d : Int) (hx : ∀ x ∈ L, ¬ (x.file = f ∧ x.blk = b)) (w : World) (h : RCacheAt w r rb 0 v L B) :
    Calls Try.prog 54 #[.pointer (some ⟨r, 0, none⟩), .int .i64 f, .int .i64 b, .int .i64 d] w fun e w' => e = .returned (.bool false) ∧ Chg (fun _ => False) w w' := by
  have hf := ref_find r rb 0 v L B f b w h
  rw [find_miss f b 0 L hx] at hf
  have HF := Lib.hid hf
  clear hf h hx
  go_enter Try.func54, Try.ntmps54
  go_wp2_with fail
  refine HF.out.mono ?_
  rintro e w' ⟨rfl, n, rfl⟩
  go_wp2_with fail
  go_ret
  exact ⟨rfl, by ((repeat (first | exact Chg.refl _ _ | assumption | refine Chg.drewN ?_ _ | refine Chg.drew ?_ | refine Chg.alloc ?_ _ | refine Chg.setCell ?_ (by simp) _)))⟩

set_option maxRecDepth 100000 in
set_option maxHeartbeats 4000000 in
theorem ref_pin_no (r rb : Nat) (v : Value) (L A M : List Node) (x : Node) (B : Bud) (d : Int) (hL : L = A ++ x :: M) (hA : ∀ y ∈ A, ¬ (y.file = x.file ∧ y.blk = x.blk)) (hd0 : -1 ≤ d) (hd1 : d ≤ 1) (hp0 : 0 ≤ x.pins) (hp1 : x.pins ≤ 1000000) (hneg : x.pins + d < 0) (w : World) (h : RCacheAt w r rb 0 v L B) :
    Calls Try.prog 54 #[.pointer (some ⟨r, 0, none⟩), .int .i64 x.file, .int .i64 x.blk, .int .i64 d] w fun e w' => e = .returned (.bool false) ∧ Chg (fun _ => False) w w' := by
  have hf := ref_find r rb 0 v L B x.file x.blk w h
  rw [show findFrom x.file x.blk 0 L = (A.length : Int) from by rw [hL, find_hit _ _ x M ⟨rfl, rfl⟩ 0 A hA]; simp] at hf
  obtain ⟨bk, cap, rfl, hbk, hlt, z0, z1, z2, z3⟩ := rc_read h hL
  obtain ⟨_, _, _, hn, c0, _⟩ := rc_len h
  have HF := Lib.hid hf
  have hge : (0 : Int) ≤ (A.length : Int) := by omega
  generalize A.length = p at *
  clear hf h hL hA
  go_enter Try.func54, Try.ntmps54
  go_wp2_with fail
  refine HF.out.mono ?_
  rintro e w1 ⟨rfl, n, rfl⟩
  go_wp2_with fail
  go_ret
  exact ⟨rfl, by ((repeat (first | exact Chg.refl _ _ | assumption | refine Chg.drewN ?_ _ | refine Chg.drew ?_ | refine Chg.alloc ?_ _ | refine Chg.setCell ?_ (by simp) _)))⟩

theorem blocks_pin (A M : List Node) (x : Node) (q : Int) : (blocksFlat (A ++ x :: M)).set (A.length * 4 + 3) (.int .i64 q) = blocksFlat (A ++ { x with pins := q } :: M) := by
  have hl := blocksFlat_len A
  have e1 : blocksFlat (A ++ x :: M) = blocksFlat A ++ (.int .i64 x.file :: .int .i64 x.blk :: .string x.data :: .int .i64 x.pins :: blocksFlat M) := by simp [blocksFlat]
  have e2 : blocksFlat (A ++ { x with pins := q } :: M) = blocksFlat A ++ (.int .i64 x.file :: .int .i64 x.blk :: .string x.data :: .int .i64 q :: blocksFlat M) := by simp [blocksFlat]
  rw [e1, e2, List.set_append_right _ _ (by omega)]
  rw [show A.length * 4 + 3 - (blocksFlat A).length = 3 from by omega]
  rfl

set_option maxRecDepth 100000 in
set_option maxHeartbeats 4000000 in
theorem ref_pin_hit (r rb : Nat) (v : Value) (L A M : List Node) (x : Node) (B : Bud) (d : Int) (hL : L = A ++ x :: M) (hA : ∀ y ∈ A, ¬ (y.file = x.file ∧ y.blk = x.blk)) (hd0 : -1 ≤ d) (hd1 : d ≤ 1) (hp0 : 0 ≤ x.pins) (hp1 : x.pins ≤ 1000000) (hneg : 0 ≤ x.pins + d) (w : World) (h : RCacheAt w r rb 0 v L B) :
    Calls Try.prog 54 #[.pointer (some ⟨r, 0, none⟩), .int .i64 x.file, .int .i64 x.blk, .int .i64 d] w fun e w' => e = .returned (.bool true) ∧ RStep r rb v w w' (A ++ { x with pins := x.pins + d } :: M) B := by
  have hf := ref_find r rb 0 v L B x.file x.blk w h
  rw [show findFrom x.file x.blk 0 L = (A.length : Int) from by rw [hL, find_hit _ _ x M ⟨rfl, rfl⟩ 0 A hA]; simp] at hf
  obtain ⟨bk, cap, rfl, hbk, hlt, z0, z1, z2, z3⟩ := rc_read h hL
  obtain ⟨_, _, _, hn, c0, _⟩ := rc_len h
  have HF := Lib.hid hf
  have hge : (0 : Int) ≤ (A.length : Int) := by omega
  have HL := Lib.hid hL
  have H := Lib.hid h
  have hfz : w.frozen? ⟨bk, A.length * 4 + 3, none⟩ = false := by
    obtain ⟨cs, hb⟩ := own_typed h.own (k := bk) rfl
    exact hb.frozen _
  generalize hp : A.length = p at *
  have HP := Lib.hid hp
  clear hf h hL hA hp z0 z1 z2
  go_enter Try.func54, Try.ntmps54
  go_wp2_with fail
  refine HF.out.mono ?_
  rintro e w1 ⟨rfl, n, rfl⟩
  clear HF
  have hnn : ¬ (x.pins + d < 0) := by omega
  go_wp2_with fail
  go_region
  all_goals
    go_wp2_with fail
    go_ret
    refine ⟨rfl, _, ?_, (Chg.drewN (Chg.refl _ _) _).setCell (fun _ => .inr (.inr rfl)) _, fun _ _ h => h⟩
    have h0 : RCacheAt (w.drewN (n + 1)) r rb 0 _ L B := H.out.same ((Chg.refl _ _).drewN _)
    have hset : Chg (fun k => k = bk) (w.drewN (n + 1)) ((w.drewN (n + 1)).setCell ⟨bk, p * 4 + 3, none⟩ (.int .i64 (x.pins + d))) := Chg.setOwn (Chg.refl _ _) _ _
    have ho := (h0.own.stored (p * 4 + 3) (.int .i64 (x.pins + d))).1
    obtain ⟨a1, a2⟩ := h0.apart.2 bk rfl
    have e1 : L.length = (A ++ { x with pins := x.pins + d } :: M).length := by rw [HL.out]; simp
    have e2 : (blocksFlat L).set (p * 4 + 3) (.int .i64 (x.pins + d)) = blocksFlat (A ++ { x with pins := x.pins + d } :: M) := by
      rw [← HP.out, HL.out]; exact blocks_pin A M x (x.pins + d)
    rw [e2] at ho
    refine ⟨h0.blk.chg hset (fun e => a1 e.symm), ?_, h0.bud.chg hset (fun e => a2 e.symm)⟩
    rw [← e1]
    exact ho

theorem ref_put_there (r rb : Nat) (v : Value) (L A M : List Node) (x : Node) (B : Bud) (s : ByteArray) (hL : L = A ++ x :: M) (hA : ∀ y ∈ A, ¬ (y.file = x.file ∧ y.blk = x.blk)) (w : World) (h : RCacheAt w r rb 0 v L B) :
    Calls Try.prog 57 #[.pointer (some ⟨r, 0, none⟩), .int .i64 x.file, .int .i64 x.blk, .string s] w fun e w' => e = .returned (.int .i64 11) ∧ Chg (fun _ => False) w w' := by
  have hf := ref_find r rb 0 v L B x.file x.blk w h
  rw [show findFrom x.file x.blk 0 L = (A.length : Int) from by rw [hL, find_hit _ _ x M ⟨rfl, rfl⟩ 0 A hA]; simp] at hf
  have HF := Lib.hid hf
  have hge : (0 : Int) ≤ (A.length : Int) := by omega
  clear hf h hL hA
  go_enter Try.func57, Try.ntmps57
  go_wp2_with fail
  refine HF.out.mono ?_
  rintro e w' ⟨rfl, n, rfl⟩
  go_wp2_with fail
  go_ret
  exact ⟨rfl, by ((repeat (first | exact Chg.refl _ _ | assumption | refine Chg.drewN ?_ _ | refine Chg.drew ?_ | refine Chg.alloc ?_ _ | refine Chg.setCell ?_ (by simp) _)))⟩

theorem ref_put_no (r rb : Nat) (v : Value) (L : List Node) (B : Bud) (f b : Int) (s : ByteArray) (hx : ∀ x ∈ L, ¬ (x.file = f ∧ x.blk = b)) (hsm : LSmall L) (htot : total L ≤ 1099511627776) (hs : s.size ≤ 140737488355328) (hno : B.l - B.u + unp L < 64 + (s.size : Int)) (w : World) (h : RCacheAt w r rb 0 v L B) :
    Calls Try.prog 57 #[.pointer (some ⟨r, 0, none⟩), .int .i64 f, .int .i64 b, .string s] w fun e w' => e = .returned (.int .i64 14) ∧ Chg (fun _ => False) w w' := by
  have hf := ref_find r rb 0 v L B f b w h
  rw [find_miss f b 0 L hx] at hf
  have hsh := fun W hW => ref_shrink_no r rb v L B (64 + (s.size : Int)) hsm htot W (h.same (w' := W) hW) hno
  have HF := Lib.hid hf
  have HSH := Lib.hid hsh
  have hs' : s.size ≤ 9223372036854775000 := by omega
  clear hf h hx hsh hsm htot hno
  go_enter Try.func57, Try.ntmps57
  go_wp2_with fail
  refine HF.out.mono ?_
  rintro e w' ⟨rfl, n, rfl⟩
  go_wp2_with fail
  refine (ref_cost s hs' _).mono ?_
  rintro e w' ⟨rfl, rfl⟩
  go_wp2_with fail
  refine (HSH.out _ (by ((repeat (first | exact Chg.refl _ _ | assumption | refine Chg.drewN ?_ _ | refine Chg.drew ?_ | refine Chg.alloc ?_ _ | refine Chg.setCell ?_ (by simp) _))))).mono ?_
  rintro e w' ⟨rfl, n2, rfl⟩
  go_wp2_with fail
  go_ret
  exact ⟨rfl, by ((repeat (first | exact Chg.refl _ _ | assumption | refine Chg.drewN ?_ _ | refine Chg.drew ?_ | refine Chg.alloc ?_ _ | refine Chg.setCell ?_ (by simp) _)))⟩

set_option maxRecDepth 100000 in
set_option maxHeartbeats 4000000 in
theorem ref_put_yes (r rb : Nat) (v : Value) (L : List Node) (B : Bud) (f b : Int) (s : ByteArray) (i : Nat) (hx : ∀ x ∈ L, ¬ (x.file = f ∧ x.blk = b)) (hsm : LSmall L) (hl1 : (rsh (64 + (s.size : Int)) B L).1.length + 1 ≤ 17179869184) (htot : total L ≤ 1099511627776) (hs : s.size ≤ 140737488355328) (hyes : 64 + (s.size : Int) ≤ B.l - B.u + unp L) (w : World) (h : RCacheAt w r rb 0 v L B) :
    Calls Try.prog 57 #[.pointer (some ⟨r, 0, none⟩), .int .i64 f, .int .i64 b, .string s] w fun e w' => e = .returned (.int .i64 0) ∧ RStep r rb v w w' ((rsh (64 + (s.size : Int)) B L).1 ++ [⟨i, f, b, s, 0⟩]) ((rsh (64 + (s.size : Int)) B L).2.reserve 1 (64 + (s.size : Int))).2 := by
  obtain ⟨i0, hi, hz0, hz1, hz2⟩ := info_parts info_rblock
  have hf := ref_find r rb 0 v L B f b w h
  rw [find_miss f b 0 L hx] at hf
  have hsh := fun W hW => ref_shrink_yes r rb v L B (64 + (s.size : Int)) hsm htot W (h.same (w' := W) hW) hyes
  have HF := Lib.hid hf
  have HSH := Lib.hid hsh
  have hs' : s.size ≤ 9223372036854775000 := by omega
  generalize (rsh (64 + (s.size : Int)) B L).1 = N at *
  generalize (rsh (64 + (s.size : Int)) B L).2 = B1 at *
  clear hf h hx hsh hsm htot hyes
  go_enter Try.func57, Try.ntmps57
  go_wp2_with fail
  refine HF.out.mono ?_
  rintro e w' ⟨rfl, n, rfl⟩
  go_wp2_with fail
  refine (ref_cost s hs' _).mono ?_
  rintro e w' ⟨rfl, rfl⟩
  go_wp2_with fail
  refine (HSH.out _ (by ((repeat (first | exact Chg.refl _ _ | assumption | refine Chg.drewN ?_ _ | refine Chg.drew ?_ | refine Chg.alloc ?_ _ | refine Chg.setCell ?_ (by simp) _))))).mono ?_
  rintro e w1 ⟨rfl, v1, hR1, hc1, hv1⟩
  have hc1w : Chg (RFoot r rb v) w w1 := Chg.then (by ((repeat (first | exact Chg.refl _ _ | assumption | refine Chg.drewN ?_ _ | refine Chg.drew ?_ | refine Chg.alloc ?_ _ | refine Chg.setCell ?_ (by simp) _)))) hc1
  obtain ⟨a1, cap1, rfl, hn1, c0, c1⟩ := rc_len hR1
  have hrl := hR1.blk.lt
  have HR1 := Lib.hid hR1
  have HC1 := Lib.hid hc1w
  have HV1 := Lib.hid hv1
  clear hR1 hc1 hv1 HF HSH hc1w
  go_wp2_with fail
  refine (rbud_reserve rb B1 1 (64 + (s.size : Int)) _ HR1.out.bud).mono ?_
  rintro e w2 ⟨rfl, hb2, hc2⟩
  have hap := HR1.out.apart
  have hr2 := HR1.out.blk.chg hc2 hap.1
  have ho2 := own_chg HR1.out.own hc2 (fun k hk => (hap.2 k hk).2)
  have hvl : ∀ k, (Value.slice a1 N.length cap1).ownBlock = some k → k ≠ r ∧ k ≠ rb := hap.2
  have d0 := hr2.cell 0
  have fr2 := hr2.frozen 0
  have hrl2 := hr2.lt
  simp at d0
  have HR2 := Lib.hid hr2
  have HO2 := Lib.hid ho2
  have HB2 := Lib.hid hb2
  have HC2 := Lib.hid hc2
  have HVR := Lib.hid hvl
  clear hr2 ho2 hb2 hc2 hap hvl c0 c1
  go_wp2_with (at_builtin; refine wpList_append_lies _ rfl _ _ _ rfl 0 95 i0 (.agg #[.int .i64 0, .int .i64 0, .string ⟨#[]⟩, .int .i64 0]) 4 40 Try.underlying63 hi hz0 hz1 hz2 rfl (by decide) (.slice a1 N.length cap1) N.length (blocksFlat N) rfl (own_chg (S := fun _ => False) HO2.out (by ((repeat (first | exact Chg.refl _ _ | assumption | refine Chg.drewN ?_ _ | refine Chg.drew ?_ | refine Chg.alloc ?_ _ | refine Chg.setCell ?_ (by simp) _)))) (by simp)) ⟨w2.heap.size, 0, none⟩ 1 1 [.int .i64 f, .int .i64 b, .string s, .int .i64 0] rfl rfl (World.news_of_block (cs := #[.int .i64 f, .int .i64 b, .string s, .int .i64 0]) (t := 95) (fr := (0, 0)) (heap_alloc_new _ _)) (by simp [Value.oneCell']) (by decide) (by unfold maxLen; omega) (by omega) (Nat.zero_le _) (w2.heap.size + 1) (by simp) ?_)
  intro g cap4 w4 hown4 hgrow hat hgl
  have fz4 : w4.frozen? ⟨r, 0, none⟩ = false := (hgrow.frozen_far ⟨r, 0, none⟩ (by simp; omega) (fun e => (HVR.out _ e.symm).1 rfl)).trans ((Chg.frozen (S := fun _ => False) (w := w2) (by ((repeat (first | exact Chg.refl _ _ | assumption | refine Chg.drewN ?_ _ | refine Chg.drew ?_ | refine Chg.alloc ?_ _ | refine Chg.setCell ?_ (by simp) _)))) hrl2 (by simp)).trans fr2)
  have cz4 : w4.cell? ⟨r, 0, none⟩ = some (.slice a1 N.length cap1) := (hgrow.cell_far ⟨r, 0, none⟩ (by simp; omega) (fun e => (HVR.out _ e.symm).1 rfl)).trans ((Chg.cell (S := fun _ => False) (w := w2) (by ((repeat (first | exact Chg.refl _ _ | assumption | refine Chg.drewN ?_ _ | refine Chg.drew ?_ | refine Chg.alloc ?_ _ | refine Chg.setCell ?_ (by simp) _)))) hrl2 (by simp)).trans d0)
  have hfin := rc_append (x := ⟨i, f, b, s, 0⟩) HR2.out HB2.out (by ((repeat (first | exact Chg.refl _ _ | assumption | refine Chg.drewN ?_ _ | refine Chg.drew ?_ | refine Chg.alloc ?_ _ | refine Chg.setCell ?_ (by simp) _)))) hgrow hown4 (n := 1) hat HVR.out
  have HFIN := Lib.hid hfin
  have hat2 := Lib.hid hat
  clear hfin hgrow hown4 hat
  all_goals
    go_wp2_with fail
    go_ret
    obtain ⟨hR, hC⟩ := HFIN.out
    have hs1 := HC1.out.size
    have hs2 := HC2.out.size
    refine ⟨rfl, _, hR, (HC1.out.trans HC2.out (fun k _ e => .inr (.inl e))).trans hC (fun k hk e => ?_), fun k hk e => ?_⟩
    · rcases e with e | e
      · exact .inl e
      · exact .inr (.inr (HV1.out k hk e))
    · have hg' : g = k := by simpa [Value.ownBlock] using e
      subst hg'
      rcases hat2.out with e | e
      · exact HV1.out _ hk e
      · omega
end Go.Proofs.Ytafdgncjfiiekaa
