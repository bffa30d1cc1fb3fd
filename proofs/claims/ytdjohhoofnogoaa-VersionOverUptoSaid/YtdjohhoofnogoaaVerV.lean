/-
  Which tables may hold a key of a span: the document's Over.
-/
import Derived.Test.YtdjohhoofnogoaaVerR
import Derived.Deep.DeepCutAuto
namespace Go.Proofs.Ytdjohhoofnogoaa
open Go.RowKit
set_option linter.unusedVariables false
set_option linter.unusedSimpArgs false

set_option maxRecDepth 100000 in
set_option maxHeartbeats 4000000 in
theorem doc_over (v : Value) (S : VerV) (n : Int) (lo hi : ByteArray) (w : World) (h : Lst docC w v (flat S)) (hn : (flat S).length ≤ 400000000) :
    Calls Try.prog 16 #[.agg #[v, .int .i64 S.log, .int .i64 S.next, .int .i64 S.seq], .int .i64 n, .string lo, .string hi] w (DPost w ((flat S).filter (overP n lo hi))) := by
  obtain ⟨va, vc, rfl, hvc, hvn, hvr⟩ := doc_form h
  obtain ⟨F, hF⟩ : ∃ F, flat S = F := ⟨_, rfl⟩
  rw [hF] at hvc hvn hvr hn ⊢
  obtain ⟨w1, hw1⟩ : ∃ w1, w1 = w.alloc (.cells #[.slice va F.length vc, .int .i64 S.log, .int .i64 S.next, .int .i64 S.seq] 29) := ⟨_, rfl⟩
  have hc1 : Chg (fun _ => False) w w1 := by rw [hw1]; ((repeat (first | exact Chg.refl _ _ | assumption | refine Chg.drewN ?_ _ | refine Chg.drew ?_ | refine Chg.alloc ?_ _ | refine Chg.setCell ?_ (by first | (simp; done) | (simp; omega) | (intro h; simp at h; omega)) _)))
  have hb1 : Blk w1 w.heap.size 29 #[.slice va F.length vc, .int .i64 S.log, .int .i64 S.next, .int .i64 S.seq] := by rw [hw1]; exact Blk.new w _ _
  have HB1 := Lib.hid hb1
  have HC1 := Lib.hid hc1
  have HW1 := Lib.hid hw1
  have HR := Lib.hid hvr
  clear hb1 hc1 hw1 hvr h hF
  go_enter Try.func16, Try.ntmps16
  go_upto_region 1 with fail
  rw [← HW1.out]
  go_wp2_with fail
  go_loopw [9, 10] (fun out i wr => ∃ A R, F = A ++ R ∧ i = .int .i64 A.length ∧ Lst docC wr out (A.filter (overP n lo hi)) ∧ (∀ k, out.ownBlock = some k → w1.heap.size ≤ k) ∧ Chg (fun _ => False) w1 wr) (fun _ i _ => F.length - (intOf i).toNat)
  case atStart => exact ⟨[], F, rfl, rfl, Lst.nil _ _, by simp [Value.ownBlock], Chg.refl _ _⟩
  case round =>
    obtain ⟨A, R, hfk, rfl, hO, hk, hc⟩ := hrel
    have hAl : A.length ≤ F.length := by rw [hfk]; simp
    obtain ⟨G, hG⟩ : ∃ G, A.filter (overP n lo hi) = G := ⟨_, rfl⟩
    have hGl : G.length ≤ A.length := by rw [← hG]; exact List.length_filter_le _ _
    rw [hG] at hO
    obtain ⟨oa, oc, rfl, _, _, _⟩ := doc_form hO
    have hcs := hc.size
    have hcs1 := HC1.out.size
    have k0 := (HB1.out.chg hc (by simp)).cell 0
    simp at k0
    have HG := Lib.hid hG
    have HO := Lib.hid hO
    have HK := Lib.hid hk
    have HC := Lib.hid hc
    cases R with
    | nil =>
      have hge : ¬ ((A.length : Int) < (F.length : Int)) := by rw [hfk]; simp
      have hend : F.filter (overP n lo hi) = G := by rw [← hG, hfk]; simp
      have HE := Lib.hid hend
      clear hfk hO hk hc hG hend
      go_wp2_with fail
      go_ret
      exact ⟨_, rfl, by rw [HE.out]; exact HO.out, fun k hk => Nat.le_trans hcs1 (HK.out k hk), HC1.out.then HC.out⟩
    | cons p B =>
      obtain ⟨b, rfl, hb, _, z0, z1, z2, z3, z4⟩ := HR.out A p B hfk
      obtain ⟨x, m⟩ := p
      have hcw := HC1.out.then hc
      have z0 := (hcw.cell (p := ⟨b, A.length * 5, none⟩) hb (by simp)).trans z0
      have z1 := (hcw.cell (p := ⟨b, A.length * 5 + 1, none⟩) hb (by simp)).trans z1
      have z2 := (hcw.cell (p := ⟨b, A.length * 5 + 2, none⟩) hb (by simp)).trans z2
      have z3 := (hcw.cell (p := ⟨b, A.length * 5 + 3, none⟩) hb (by simp)).trans z3
      have z4 := (hcw.cell (p := ⟨b, A.length * 5 + 4, none⟩) hb (by simp)).trans z4
      have hlt2 : (A.length : Int) < (F.length : Int) := by rw [hfk]; simp; omega
      have hge : (0 : Int) ≤ (A.length : Int) := by omega
      have hf2 : F = (A ++ [(⟨x, m⟩ : PlaceV)]) ++ B := by rw [hfk]; simp
      have HF2 := Lib.hid hf2
      clear hfk hG hO hk hc hf2 hcw
      simp only at z0 z1 z2 z3 z4
      go_upto_region 5 with fail
      go_cut [45] (fun c wx => c = .bool (overP n lo hi ⟨x, m⟩) ∧ wr = wx)
      case first =>
        have hs1 := sl_leq lo m.hi
        have hs2 := sl_leq m.lo hi
        by_cases hx : x = n
        · have hr : overP n lo hi ⟨x, m⟩ = overB lo hi m := by simp [overP, hx]
          have hxe : (x == n) = true := by simp [hx]
          clear hx
          cases h1 : sl m.hi lo with
          | true =>
            have HRR := Lib.hid (show overP n lo hi ⟨x, m⟩ = false by rw [hr]; simp [overB, h1])
            rw [h1] at hs1
            unfold sl at hs1 h1
            clear hr hs2
            go_wp2_with fail
            all_goals go_meet
            all_goals exact ⟨by rw [HRR.out], rfl⟩
          | false =>
            cases h2 : sl hi m.lo with
            | true =>
              have HRR := Lib.hid (show overP n lo hi ⟨x, m⟩ = false by rw [hr]; simp [overB, h2])
              rw [h1] at hs1
              rw [h2] at hs2
              unfold sl at hs1 hs2 h1 h2
              clear hr
              go_wp2_with fail
              all_goals go_meet
              all_goals exact ⟨by rw [HRR.out], rfl⟩
            | false =>
              have HRR := Lib.hid (show overP n lo hi ⟨x, m⟩ = true by rw [hr]; simp [overB, h1, h2])
              rw [h1] at hs1
              rw [h2] at hs2
              unfold sl at hs1 hs2 h1 h2
              clear hr
              go_wp2_with fail
              all_goals go_meet
              all_goals exact ⟨by rw [HRR.out], rfl⟩
        · have HRR := Lib.hid (show overP n lo hi ⟨x, m⟩ = false by simp [overP, hx])
          have hxe : (x == n) = false := by simp [hx]
          clear hs1 hs2 hx
          go_wp2_with fail
          all_goals go_meet
          all_goals exact ⟨by rw [HRR.out], rfl⟩
      case rest =>
        obtain ⟨rfl, rfl⟩ := hcut
        cases ho : overP n lo hi ⟨x, m⟩ with
        | false =>
          have HO3 := Lib.hid (show (A ++ [(⟨x, m⟩ : PlaceV)]).filter (overP n lo hi) = G by rw [List.filter_append, HG.out]; simp [ho])
          clear ho
          go_wp2_with fail
          go_roundw
          case rel => exact ⟨A ++ [(⟨x, m⟩ : PlaceV)], B, HF2.out, by simp, by rw [HO3.out]; exact HO.out, HK.out, HC.out⟩
          case measure => simp [intOf]; omega
        | true =>
          have HO3 := Lib.hid (show (A ++ [(⟨x, m⟩ : PlaceV)]).filter (overP n lo hi) = G ++ [(⟨x, m⟩ : PlaceV)] by rw [List.filter_append, HG.out]; simp [ho])
          clear ho
          go_wp2_with (at_builtin; refine wpList_lst_app docOk _ (by rfl) _ _ (by rfl) G _ ⟨x, m⟩ (by rfl) (HO.out.same (by ((repeat (first | exact Chg.refl _ _ | assumption | refine Chg.drewN ?_ _ | refine Chg.drew ?_ | refine Chg.alloc ?_ _ | refine Chg.setCell ?_ (by first | (simp; done) | (simp; omega) | (intro h; simp at h; omega)) _))))) _ (by rfl) (by omega) (Blk.new _ _ _) ?_)
          intro v' w' hO' hcg hb'
          have hk' : ∀ b, v'.ownBlock = some b → w1.heap.size ≤ b := fun k' hk' => by
            rcases hb' k' hk' with e | e
            · exact HK.out k' e
            · omega
          have hc' : Chg (fun _ => False) w1 w' := Chg.trans (HC.out.alloc _) hcg (fun k hk e => by have := HK.out k e; omega)
          have HO' := Lib.hid hO'
          have HK' := Lib.hid hk'
          have HC' := Lib.hid hc'
          clear hO' hcg hb' hk' hc'
          go_wp2_with fail
          go_roundw
          case rel => exact ⟨A ++ [(⟨x, m⟩ : PlaceV)], B, HF2.out, by simp, by rw [HO3.out]; exact HO'.out, HK'.out, HC'.out⟩
          case measure => simp [intOf]; omega
end Go.Proofs.Ytdjohhoofnogoaa
