/-
  The law's sameVersion: a version and the document's list of it are told the same.
-/
import Derived.Test.YtdjohhoofnogoaaVerB
import Derived.Test.YtdjohhoofnogoaaVerH
import Derived.Deep.RegionHeld3
namespace Go.Proofs.Ytdjohhoofnogoaa
open Go.RowKit
set_option linter.unusedVariables false
set_option linter.unusedSimpArgs false

/-- The levels from k on, as the document's list. -/
def tlF (f : Nat → List MetaV) : Nat → List PlaceV
  | 0 => flatF f
  | 1 => atLevel 1 (f 1) ++ (atLevel 2 (f 2) ++ atLevel 3 (f 3))
  | 2 => atLevel 2 (f 2) ++ atLevel 3 (f 3)
  | 3 => atLevel 3 (f 3)
  | _ => []
theorem tlF_step (f : Nat → List MetaV) {k : Nat} (hk : k < 4) : tlF f k = atLevel k (f k) ++ tlF f (k + 1) := by
  match k, hk with
  | 0, _ => rfl
  | 1, _ => rfl
  | 2, _ => rfl
  | 3, _ => simp [tlF]
theorem atLevel_cons (k : Nat) (x : MetaV) (B : List MetaV) : atLevel k (x :: B) = ⟨(k : Int), x⟩ :: atLevel k B := rfl

set_option maxRecDepth 1000000 in
set_option maxHeartbeats 4000000 in
theorem law_same (L : Nat → Value) (S : VerV) (v : Value) (w : World) (h : VerAt w L S.lv) (hd : Lst docC w v (flat S)) (hn : ∀ i, i < 4 → (S.lv i).length ≤ 100000000) (hS : (flat S).length ≤ 400000000) :
    Calls Try.prog 11 #[.agg #[L 0, L 1, L 2, L 3, .int .i64 S.log, .int .i64 S.next, .int .i64 S.seq], .agg #[v, .int .i64 S.log, .int .i64 S.next, .int .i64 S.seq]] w fun e w' => e = .returned (.bool true) ∧ Chg (fun _ => False) w w' := by
  obtain ⟨va, vc, rfl, hvc, hvn, hvr⟩ := doc_form hd
  obtain ⟨f, hf⟩ : ∃ f, S.lv = f := ⟨_, rfl⟩
  obtain ⟨F, hF⟩ : ∃ F, flat S = F := ⟨_, rfl⟩
  have hFf : F = tlF f 0 := by rw [← hF, ← hf]; rfl
  rw [hf] at h hn
  rw [hF] at hvc hvn hvr hS hd ⊢
  obtain ⟨w1, hw1⟩ : ∃ w1, w1 = (w.alloc (.cells #[L 0, L 1, L 2, L 3, .int .i64 S.log, .int .i64 S.next, .int .i64 S.seq] 26)).alloc (.cells #[.slice va F.length vc, .int .i64 S.log, .int .i64 S.next, .int .i64 S.seq] 29) := ⟨_, rfl⟩
  have hc1 : Chg (fun _ => False) w w1 := by rw [hw1]; ((repeat (first | exact Chg.refl _ _ | assumption | refine Chg.drewN ?_ _ | refine Chg.drew ?_ | refine Chg.alloc ?_ _ | refine Chg.setCell ?_ (by first | (simp; done) | (simp; omega) | (intro h; simp at h; omega)) _)))
  have hb1 : Blk w1 w.heap.size 26 #[L 0, L 1, L 2, L 3, .int .i64 S.log, .int .i64 S.next, .int .i64 S.seq] := by rw [hw1]; exact (Blk.new w _ _).alloc _
  have hb2 : Blk w1 (w.heap.size + 1) 29 #[.slice va F.length vc, .int .i64 S.log, .int .i64 S.next, .int .i64 S.seq] := by rw [hw1]; exact (Blk.new1 w _ _ _)
  have y0 := hb1.cell 0
  have y1 := hb1.cell 1
  have y2 := hb1.cell 2
  have y3 := hb1.cell 3
  simp at y0 y1 y2 y3
  have hlt1 : w.heap.size + 1 < w1.heap.size := hb2.lt
  have HB1 := Lib.hid hb1
  have HB2 := Lib.hid hb2
  have HW1 := Lib.hid hw1
  have HC1 := Lib.hid hc1
  have H := Lib.hid h
  have HN := Lib.hid hn
  have HF := Lib.hid hF
  have HVR := Lib.hid hvr
  have HFF := Lib.hid hFf
  have HIX := Lib.hid (fun (k : Nat) (hk : k < 4) (w : World) => run_index4 L hk w)
  clear hw1 hc1 hb1 hb2 h hn hF hf hvr hFf hd
  go_enter Try.func11, Try.ntmps11
  go_wp2_with fail
  rw [← HW1.out]
  go_wp2_with fail
  go_loopw [5, 12] (fun at_ i wr => ∃ (k : Nat) (P : List PlaceV), k ≤ 4 ∧ i = .int .i64 k ∧ F = P ++ tlF f k ∧ at_ = .int .i64 P.length ∧ Chg (fun _ => False) w1 wr) (fun _ i _ => 4 - (intOf i).toNat)
  case atStart => exact ⟨0, [], by omega, rfl, HFF.out, rfl, Chg.refl _ _⟩
  case round =>
    obtain ⟨k, P, hk4, rfl, hP, rfl, hc⟩ := hrel
    by_cases hlt : k < 4
    · have hix := HIX.out k hlt
      obtain ⟨la, lc, hL, hlc, hln, hread⟩ := meta_form (H.out k hlt)
      rw [hL] at hix
      have hnk := HN.out k hlt
      have hlt' : (k : Int) < 4 := by omega
      have HR := Lib.hid hread
      have HL := Lib.hid hL
      have HC := Lib.hid hc
      have HP := Lib.hid hP
      obtain ⟨wo, hwo⟩ : ∃ wo : World, wo = wr := ⟨_, rfl⟩
      subst hwo
      clear hread hL hc hP
      go_wp2_with fail
      go_loopw [5, 18] (fun at_ i wr => ∃ A R, f k = A ++ R ∧ i = .int .i64 A.length ∧ at_ = .int .i64 ((P ++ atLevel k A).length : Nat) ∧ Chg (fun _ => False) w1 wr) (fun _ i _ => (f k).length - (intOf i).toNat)
      case atStart => exact ⟨[], f k, rfl, rfl, by simp [atLevel], HC.out⟩
      case round =>
        obtain ⟨A, R, hfk, rfl, rfl, hc2⟩ := hrel
        have hAl : A.length ≤ (f k).length := by rw [hfk]; simp
        obtain ⟨Q, hQ⟩ : ∃ Q, P ++ atLevel k A = Q := ⟨_, rfl⟩
        rw [hQ]
        have hcs := hc2.size
        cases R with
        | nil =>
          have hge : ¬ ((A.length : Int) < ((f k).length : Int)) := by rw [hfk]; simp
          have hend : F = Q ++ tlF f (k + 1) := by rw [HP.out, tlF_step f hlt, ← hQ, hfk]; simp
          have HE := Lib.hid hend
          have HC2 := Lib.hid hc2
          clear hfk hc2 hQ hend
          go_wp2_with fail
          go_roundw
          case rel => exact ⟨k + 1, Q, by omega, by go_num, HE.out, rfl, HC2.out⟩
          case measure => simp [intOf]; omega
        | cons x B =>
          obtain ⟨b, rfl, hb, _, z0, z1, z2, z3⟩ := HR.out A x B hfk
          have hFQ : F = Q ++ ⟨(k : Int), x⟩ :: (atLevel k B ++ tlF f (k + 1)) := by rw [HP.out, tlF_step f hlt, ← hQ, hfk]; simp [atLevel]
          obtain ⟨b2, rfl, hb2, _, v0, v1, v2, v3, v4⟩ := HVR.out Q _ _ hFQ
          simp only at v0 v1 v2 v3 v4
          have hc3 := HC1.out.then hc2
          have z0 := (hc3.cell (p := ⟨b, A.length * 4, none⟩) hb (by simp)).trans z0
          have z1 := (hc3.cell (p := ⟨b, A.length * 4 + 1, none⟩) hb (by simp)).trans z1
          have z2 := (hc3.cell (p := ⟨b, A.length * 4 + 2, none⟩) hb (by simp)).trans z2
          have z3 := (hc3.cell (p := ⟨b, A.length * 4 + 3, none⟩) hb (by simp)).trans z3
          have v0 := (hc3.cell (p := ⟨b2, Q.length * 5, none⟩) hb2 (by simp)).trans v0
          have v1 := (hc3.cell (p := ⟨b2, Q.length * 5 + 1, none⟩) hb2 (by simp)).trans v1
          have v2 := (hc3.cell (p := ⟨b2, Q.length * 5 + 2, none⟩) hb2 (by simp)).trans v2
          have v3 := (hc3.cell (p := ⟨b2, Q.length * 5 + 3, none⟩) hb2 (by simp)).trans v3
          have v4 := (hc3.cell (p := ⟨b2, Q.length * 5 + 4, none⟩) hb2 (by simp)).trans v4
          have r0 := (HB2.out.chg hc2 (by simp)).cell 0
          simp at r0
          have hlt2 : (A.length : Int) < ((f k).length : Int) := by rw [hfk]; simp; omega
          have hge : (0 : Int) ≤ (A.length : Int) := by omega
          have hgeq : (0 : Int) ≤ (Q.length : Int) := by omega
          have hltq : (Q.length : Int) < (F.length : Int) := by rw [hFQ]; simp; omega
          have hdq : decide ((F.length : Int) ≤ (Q.length : Int)) = false := by simpa using hltq
          have hQl : Q.length < F.length := by omega
          have hf2 : f k = (A ++ [x]) ++ B := by rw [hfk]; simp
          have hQ2 : P ++ atLevel k (A ++ [x]) = Q ++ [⟨(k : Int), x⟩] := by rw [← hQ]; simp [atLevel]
          have HF2 := Lib.hid hf2
          have HQ2 := Lib.hid hQ2
          have HC2 := Lib.hid hc2
          clear hfk hQ hf2 hc3 hFQ hQ2 hc2
          obtain ⟨wq, hwq⟩ : ∃ wq, wq = wr.alloc (.cells #[.int .i64 x.file, .int .i64 x.size, .string x.lo, .string x.hi] 53) := ⟨_, rfl⟩
          have hcq : Chg (fun _ => False) wr wq := by rw [hwq]; exact (Chg.refl _ _).alloc _
          have bq : Blk wq wr.heap.size 53 #[.int .i64 x.file, .int .i64 x.size, .string x.lo, .string x.hi] := by rw [hwq]; exact Blk.new _ _ _
          have lift : ∀ {p : Addr} {v : Value}, wr.cell? p = some v → wq.cell? p = some v := fun h => by rw [hwq]; exact kc_alloc _ h
          have i0 := bq.cell 0
          have i1 := bq.cell 1
          have i2 := bq.cell 2
          have i3 := bq.cell 3
          simp at i0 i1 i2 i3
          have v0 := lift v0
          have v1 := lift v1
          have v2 := lift v2
          have v3 := lift v3
          have v4 := lift v4
          have r0 := lift r0
          have HWQ := Lib.hid hwq
          have HCQ := Lib.hid (Chg.then HC2.out hcq)
          clear lift hwq bq hcq
          go_wp2_with fail
          rw [← HWQ.out]
          go_quiet (fail)
          go_wp2_with fail
          refine ⟨⟨A ++ [x], B, HF2.out, by simp, by rw [HQ2.out]; simp, HCQ.out.drewN _⟩, by simp [intOf]; omega⟩
    · obtain rfl : k = 4 := by omega
      have hPF : P = F := by rw [hP]; simp [tlF]
      subst hPF
      have a4 := (HB1.out.chg hc (by simp)).cell 4
      have a5 := (HB1.out.chg hc (by simp)).cell 5
      have a6 := (HB1.out.chg hc (by simp)).cell 6
      have e0 := (HB2.out.chg hc (by simp)).cell 0
      have e1 := (HB2.out.chg hc (by simp)).cell 1
      have e2 := (HB2.out.chg hc (by simp)).cell 2
      have e3 := (HB2.out.chg hc (by simp)).cell 3
      simp at a4 a5 a6 e0 e1 e2 e3
      have HCF := Lib.hid (HC1.out.then hc)
      clear hc hP
      go_wp2_with fail
      go_ret
      exact ⟨rfl, HCF.out⟩
end Go.Proofs.Ytdjohhoofnogoaa
