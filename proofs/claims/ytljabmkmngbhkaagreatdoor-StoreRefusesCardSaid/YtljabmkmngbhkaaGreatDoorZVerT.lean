/-
  A version is made out of none by one edit: plain facts; and the program's Whole.
-/
import Derived.Test.YtljabmkmngbhkaaGreatDoorZMg35
namespace Go.Proofs.YtljabmkmngbhkaaGreatDoor
open Go.RowKit
set_option linter.unusedVariables false
set_option linter.unusedSimpArgs false

def wholeE (S : VerV) : EditV := ⟨flat S, [], S.log, S.next, S.seq⟩
set_option maxRecDepth 100000 in
set_option maxHeartbeats 4000000 in
theorem ver_whole (l0 l1 l2 l3 : Value) (S : VerV) (w : World) (h : VerAt w (Lv l0 l1 l2 l3) S.lv) (hn : (flat S).length ≤ 41943040) :
    Calls Tryz.prog 308 #[.agg #[l0, l1, l2, l3, .int .i64 S.log, .int .i64 S.next, .int .i64 S.seq]] w fun e w' => ∃ a c, e = .returned (.agg #[.slice a (flat S).length c, .slice none 0 0, .int .i64 S.log, .int .i64 S.next, .int .i64 S.seq]) ∧ Lst placeC w' (.slice a (flat S).length c) (flat S) ∧ Chg (fun _ => False) w w' := by
  obtain ⟨F, hF⟩ : ∃ F, flat S = F := ⟨_, rfl⟩
  obtain ⟨f, hf⟩ : ∃ f, S.lv = f := ⟨_, rfl⟩
  have hFf : F = tlF f 0 := by rw [← hF, ← hf]; rfl
  have hnf : ∀ i, i < 4 → (f i).length ≤ 41943040 := fun i hi => by have := lv_len S i hi; rw [hf] at this; omega
  rw [hf] at h
  rw [hF] at hn ⊢
  obtain ⟨w1, hw1⟩ : ∃ w1, w1 = ((w.alloc (.cells #[l0, l1, l2, l3, .int .i64 S.log, .int .i64 S.next, .int .i64 S.seq] 62)).alloc (.cells #[.slice none 0 0, .slice none 0 0, .int .i64 0, .int .i64 0, .int .i64 0] 157)).alloc (.cells #[.slice none 0 0, .slice none 0 0, .int .i64 S.log, .int .i64 S.next, .int .i64 S.seq] 157) := ⟨_, rfl⟩
  have hc1 : Chg (fun _ => False) w w1 := by rw [hw1]; exact cgS
  have hb1 : Blk w1 w.heap.size 62 #[l0, l1, l2, l3, .int .i64 S.log, .int .i64 S.next, .int .i64 S.seq] := by rw [hw1]; exact ((Blk.new w _ _).alloc _).alloc _
  have hb2 : Blk w1 (w.heap.size + 1) 157 #[.slice none 0 0, .slice none 0 0, .int .i64 0, .int .i64 0, .int .i64 0] := by rw [hw1]; exact (Blk.new1 w _ _ _).alloc _
  have hb3 : Blk w1 (w.heap.size + 1 + 1) 157 #[.slice none 0 0, .slice none 0 0, .int .i64 S.log, .int .i64 S.next, .int .i64 S.seq] := by rw [hw1]; exact Blk.new2 w _ _ _ _
  have y0 := hb1.cell 0
  have y1 := hb1.cell 1
  have y2 := hb1.cell 2
  have y3 := hb1.cell 3
  simp at y0 y1 y2 y3
  have hlt1 := hb3.lt
  have HB2 := Lib.hid hb2
  have HB3 := Lib.hid hb3
  have HW1 := Lib.hid hw1
  have HC1 := Lib.hid hc1
  have H := Lib.hid h
  have HNF := Lib.hid hnf
  have HFF := Lib.hid hFf
  have HIX := Lib.hid (fun (k : Nat) (hk : k < 4) (w : World) => show (Instr.index 60 (.agg #[l0, l1, l2, l3]) (.int .i64 (k : Int))).run Tryz.prog w = .ok (Lv l0 l1 l2 l3 k) w from run_index4 (Lv l0 l1 l2 l3) hk w)
  clear hw1 hc1 hb1 hb2 hb3 h hF hf hFf hnf
  go_enter Tryz.func308, Tryz.ntmps308
  go_upto_region 2 with fail
  rw [← HW1.out]
  go_wp2_with fail
  go_loopw [17] (fun i wr => ∃ (k : Nat) (P : List PlaceV) (v : Value), k ≤ 4 ∧ i = .int .i64 k ∧ F = P ++ tlF f k ∧ Blk wr (w.heap.size + 1 + 1) 157 #[v, .slice none 0 0, .int .i64 S.log, .int .i64 S.next, .int .i64 S.seq] ∧ Lst placeC wr v P ∧ (∀ k, v.ownBlock = some k → w1.heap.size ≤ k) ∧ Chg (fun j => j = w.heap.size + 1 + 1) w1 wr) (fun i _ => 4 - (intOf i).toNat)
  case atStart => exact ⟨0, [], _, by omega, rfl, HFF.out, HB3.out, Lst.nil _ _, by simp [Value.ownBlock], Chg.refl _ _⟩
  case round =>
    obtain ⟨k, P, v, hk4, rfl, hP, hG, hO, hk, hc⟩ := hrel
    by_cases hlt : k < 4
    · have hix := HIX.out k hlt
      obtain ⟨la, lc, hL, hlc, hln, hread⟩ := meta_form (H.out k hlt)
      rw [hL] at hix
      have hnk := HNF.out k hlt
      have hlt' : (k : Int) < 4 := by omega
      have HR := Lib.hid hread
      have HL := Lib.hid hL
      have HC := Lib.hid hc
      have HP := Lib.hid hP
      have HG := Lib.hid hG
      have HO := Lib.hid hO
      have HK := Lib.hid hk
      obtain ⟨wo, hwo⟩ : ∃ wo : World, wo = wr := ⟨_, rfl⟩
      subst hwo
      clear hread hL hc hP hG hO hk
      go_wp2_with fail
      go_loopw [23] (fun i wr => ∃ A R v, f k = A ++ R ∧ i = .int .i64 A.length ∧ Blk wr (w.heap.size + 1 + 1) 157 #[v, .slice none 0 0, .int .i64 S.log, .int .i64 S.next, .int .i64 S.seq] ∧ Lst placeC wr v (P ++ atLevel k A) ∧ (∀ k, v.ownBlock = some k → w1.heap.size ≤ k) ∧ Chg (fun j => j = w.heap.size + 1 + 1) w1 wr) (fun i _ => (f k).length - (intOf i).toNat)
      case atStart => exact ⟨[], f k, v, rfl, rfl, HG.out, by simpa [atLevel] using HO.out, HK.out, HC.out⟩
      case round =>
        obtain ⟨A, R, v, hfk, rfl, hG, hO, hk, hc2⟩ := hrel
        have hAl : A.length ≤ (f k).length := by rw [hfk]; simp
        obtain ⟨Q, hQ⟩ : ∃ Q, P ++ atLevel k A = Q := ⟨_, rfl⟩
        rw [hQ] at hO
        have hcs := hc2.size
        have HC2 := Lib.hid hc2
        cases R with
        | nil =>
          have hge : ¬ ((A.length : Int) < ((f k).length : Int)) := by rw [hfk]; simp
          have hend : F = Q ++ tlF f (k + 1) := by rw [HP.out, tlF_step f hlt, ← hQ, hfk]; simp
          have HE := Lib.hid hend
          have HG := Lib.hid hG
          have HO := Lib.hid hO
          have HK := Lib.hid hk
          clear hfk hc2 hQ hend hG hO hk
          go_wp2_with fail
          go_roundw
          case rel => exact ⟨k + 1, Q, v, by omega, by go_num, HE.out, HG.out, HO.out, HK.out, HC2.out⟩
          case measure => simp [intOf]; omega
        | cons x B =>
          obtain ⟨b, rfl, hb, _, z0, z1, z2, z3⟩ := HR.out A x B hfk
          have hFQ : F = Q ++ ⟨(k : Int), x⟩ :: (atLevel k B ++ tlF f (k + 1)) := by rw [HP.out, tlF_step f hlt, ← hQ, hfk]; simp [atLevel]
          have hQl : Q.length < 41943040 := by
            have := congrArg List.length hFQ
            simp at this
            omega
          obtain ⟨oa, oc, rfl, _, _, _⟩ := place_form hO
          have lift : ∀ {p : Addr} {v : Value}, w.cell? p = some v → wr.cell? p = some v := fun {p} {v} h => by
            have hp := World.block_lt_of_cell? w p h
            have h3 := (HC1.out.cell (p := p) hp (by simp)).trans h
            exact (hc2.cell (p := p) (Nat.lt_of_lt_of_le hp HC1.out.size) (by omega)).trans h3
          have z0 := lift z0
          have z1 := lift z1
          have z2 := lift z2
          have z3 := lift z3
          have g0 := hG.cell 0
          have fg0 := hG.frozen 0
          simp at g0
          have hglt := hG.lt
          have hne : (Value.slice oa Q.length oc).ownBlock ≠ some (w.heap.size + 1 + 1) := fun e => by
            obtain ⟨cs, hb⟩ := hO.typed e
            exact hb.ne_ hG (by decide) rfl
          have hlt2 : (A.length : Int) < ((f k).length : Int) := by rw [hfk]; simp; omega
          have hge : (0 : Int) ≤ (A.length : Int) := by omega
          have hf2 : f k = (A ++ [x]) ++ B := by rw [hfk]; simp
          have hQ2 : P ++ atLevel k (A ++ [x]) = Q ++ [⟨(k : Int), x⟩] := by rw [← hQ]; simp [atLevel]
          have HF2 := Lib.hid hf2
          have HQ2 := Lib.hid hQ2
          have HG := Lib.hid hG
          have HO := Lib.hid hO
          have HK := Lib.hid hk
          have HNE := Lib.hid hne
          clear hfk hQ hf2 hFQ hQ2 hc2 lift hG hO hk hne
          go_wp2_with (at_builtin; refine wpList_lst_app placeOk _ (by rfl) _ _ (by rfl) Q _ ⟨(k : Int), x⟩ (by rfl) (HO.out.same cgS) _ (by rfl) (by omega) bnN ?_)
          intro v' w5 hO5 hc5 hk5
          obtain ⟨p5, c5, e5, _⟩ := place_form hO5
          rw [List.length_append, List.length_singleton] at e5
          subst e5
          obtain ⟨W1, hW1⟩ : ∃ W1, W1 = (wr.alloc (.cells #[.int .i64 x.file, .int .i64 x.size, .string x.lo, .string x.hi] 112)).alloc (.cells #[.int .i64 (k : Int), .int .i64 x.file, .int .i64 x.size, .string x.lo, .string x.hi] 160) := ⟨_, rfl⟩
          rw [← hW1] at hc5
          have hr1 : Chg (fun _ => False) wr W1 := by rw [hW1]; exact cgS
          have hG1 := (HG.out.chg hr1 (by simp)).chg hc5 HNE.out
          have g5 := hG1.cell 0
          have fg5 := hG1.frozen 0
          simp at g5
          have hset : Chg (fun j => j = w.heap.size + 1 + 1) w5 (w5.setCell ⟨w.heap.size + 1 + 1, 0, none⟩ (.slice p5 (Q.length + 1) c5)) := Chg.setCell (S := fun j => j = w.heap.size + 1 + 1) (Chg.refl _ w5) (p := ⟨w.heap.size + 1 + 1, 0, none⟩) (fun _ => rfl) _
          have f1 := hG1.set_ 0 (.slice p5 (Q.length + 1) c5)
          have f2 := hO5.chg hset (fun k hk e => by
            subst e
            obtain ⟨cs, hb⟩ := hO5.typed hk
            exact hb.ne_ hG1 (by decide) rfl)
          have hk5' : ∀ k, (Value.slice p5 (Q.length + 1) c5).ownBlock = some k → w1.heap.size ≤ k := fun k hk => by
            rcases hk5 k hk with e | e
            · exact HK.out k e
            · omega
          have hcW : Chg (fun j => j = w.heap.size + 1 + 1) w1 w5 := (HC2.out.trans hr1 (fun _ _ e => e.elim)).trans hc5 (fun k hk e => by have := HK.out k e; omega)
          have f3 := hcW.then hset
          have F1 := Lib.hid f1
          have F2 := Lib.hid f2
          have F3 := Lib.hid f3
          have HK5 := Lib.hid hk5'
          clear hW1 hO5 hc5 hk5 hr1 hG1 hset f1 f2 f3 hk5' hcW z0 z1 z2 z3 g0 fg0
          go_wp2_with fail
          go_roundw
          case rel => exact ⟨A ++ [x], B, _, HF2.out, by simp, (by simpa using F1.out), by rw [HQ2.out]; exact F2.out, HK5.out, F3.out⟩
          case measure => simp [intOf]; omega
    · obtain rfl : k = 4 := by omega
      have hPF : P = F := by rw [hP]; simp [tlF]
      clear hP
      subst hPF
      obtain ⟨oa, oc, rfl, _, _, _⟩ := place_form hO
      have g0 := hG.cell 0
      have g1 := hG.cell 1
      have g2 := hG.cell 2
      have g3 := hG.cell 3
      have g4 := hG.cell 4
      have hr := HB2.out.chg hc (by omega)
      have f0 := hr.frozen 0
      have f1 := hr.frozen 1
      have f2 := hr.frozen 2
      have f3 := hr.frozen 3
      have f4 := hr.frozen 4
      have r0 := hr.cell 0
      have r1 := hr.cell 1
      have r2 := hr.cell 2
      have r3 := hr.cell 3
      have r4 := hr.cell 4
      simp at g0 g1 g2 g3 g4 r0 r1 r2 r3 r4
      have HG := Lib.hid hG
      have HO := Lib.hid hO
      have HR := Lib.hid hr
      have HCC := Lib.hid hc
      clear hG hO hk hr hc
      go_upto_region 11 with fail
      go_cut [37] (fun _ wx => Blk wx (w.heap.size + 1) 157 #[.slice oa P.length oc, .slice none 0 0, .int .i64 S.log, .int .i64 S.next, .int .i64 S.seq] ∧ Chg (fun j => j = w.heap.size + 1) wr wx)
      case first =>
        go_wp2_with fail
        go_meet
        refine ⟨?_, cgR⟩
        have h9 := ((((HR.out.set_ 0 (.slice oa P.length oc)).set_ 1 (.slice none 0 0)).set_ 2 (.int .i64 S.log)).set_ 3 (.int .i64 S.next)).set_ 4 (.int .i64 S.seq)
        simp at h9
        exact h9
      case rest =>
        obtain ⟨hz, hcz⟩ := hcut
        have hOf := HO.out.chg hcz (fun k hk e => by
          subst e
          obtain ⟨cs, hb⟩ := HO.out.typed hk
          exact hb.ne_ HR.out (by decide) rfl)
        have hcf : Chg (fun _ => False) w wc := (HC1.out.trans HCC.out (fun k hk e => by omega)).trans hcz (fun k hk e => by omega)
        have x0 := hz.cell 0
        have x1 := hz.cell 1
        have x2 := hz.cell 2
        have x3 := hz.cell 3
        have x4 := hz.cell 4
        simp at x0 x1 x2 x3 x4
        have HOF := Lib.hid hOf
        have HCF := Lib.hid hcf
        clear hz hcz hOf hcf
        go_wp2_with fail
        exact bodyPost_ret (v := .agg #[.slice oa P.length oc, .slice none 0 0, .int .i64 S.log, .int .i64 S.next, .int .i64 S.seq]) (by simp [results, Tryz.results308, go_sem, x0, x1, x2, x3, x4]) rfl ⟨oa, oc, rfl, HOF.out, HCF.out⟩
end Go.Proofs.YtljabmkmngbhkaaGreatDoor
