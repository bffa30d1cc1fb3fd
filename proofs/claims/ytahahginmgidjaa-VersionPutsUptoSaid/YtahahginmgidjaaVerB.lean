/-
  The program's version: Files; a level's order (sort).
-/
import Derived.Test.YtahahginmgidjaaVerS
namespace Go.Proofs.Ytahahginmgidjaa
open Go.RowKit
set_option linter.unusedVariables false
set_option linter.unusedSimpArgs false

/-- The four levels of a version, each a slice of its own. -/
def VerAt (w : World) (L : Nat → Value) (f : Nat → List MetaV) : Prop := ∀ i, i < 4 → Lst metaC w (L i) (f i)
theorem VerAt.same {w w' : World} {L : Nat → Value} {f : Nat → List MetaV} (h : VerAt w L f) (hc : Chg (fun _ => False) w w') : VerAt w' L f := fun i hi => (h i hi).same hc
def vcells (L : Nat → Value) (log next seq : Int) : Array Value := #[L 0, L 1, L 2, L 3, .int .i64 log, .int .i64 next, .int .i64 seq]
def upTo (f : Nat → List MetaV) (k : Nat) : List Int := (List.range k).flatMap fun i => (f i).map (·.file)
theorem upTo_succ (f : Nat → List MetaV) (k : Nat) : upTo f (k + 1) = upTo f k ++ (f k).map (·.file) := by simp [upTo, List.range_succ]
theorem upTo_all (f : Nat → List MetaV) : upTo f 4 = filesOf (flatF f) := by
  simp [upTo, filesOf, flatF, atLevel, List.range_succ, Function.comp_def]
theorem upTo_len (f : Nat → List MetaV) (n k : Nat) (hn : ∀ i, i < k → (f i).length ≤ n) : (upTo f k).length ≤ k * n := by
  induction k with
  | zero => simp [upTo]
  | succ k ih =>
    rw [upTo_succ, List.length_append, List.length_map, Nat.add_mul, Nat.one_mul]
    have := ih fun i hi => hn i (by omega)
    have := hn k (by omega)
    omega
theorem run_index4 (L : Nat → Value) {k : Nat} (hk : k < 4) (w : World) : (Instr.index 66 (.agg #[L 0, L 1, L 2, L 3]) (.int .i64 (k : Int))).run Try.prog w = .ok (L k) w := by
  match k, hk with
  | 0, _ => exact (show (Instr.index 66 (.agg #[L 0, L 1, L 2, L 3]) (.int .i64 0)).run Try.prog w = .ok (L 0) w by kernel_rfl)
  | 1, _ => exact (show (Instr.index 66 (.agg #[L 0, L 1, L 2, L 3]) (.int .i64 1)).run Try.prog w = .ok (L 1) w by kernel_rfl)
  | 2, _ => exact (show (Instr.index 66 (.agg #[L 0, L 1, L 2, L 3]) (.int .i64 2)).run Try.prog w = .ok (L 2) w by kernel_rfl)
  | 3, _ => exact (show (Instr.index 66 (.agg #[L 0, L 1, L 2, L 3]) (.int .i64 3)).run Try.prog w = .ok (L 3) w by kernel_rfl)

/-- All files, rising. -/
def FilesPost (w : World) (f : Nat → List MetaV) (e : Ending) (w' : World) : Prop :=
  ∃ v, e = .returned v ∧ Lst i64C w' v ((filesOf (flatF f)).mergeSort fun x y => decide (x ≤ y)) ∧ (∀ k, v.ownBlock = some k → w.heap.size ≤ k) ∧ Chg (fun _ => False) w w'

set_option maxRecDepth 100000 in
set_option maxHeartbeats 4000000 in
theorem ver_files (L : Nat → Value) (f : Nat → List MetaV) (log next seq : Int) (w : World) (h : VerAt w L f) (hn : ∀ i, i < 4 → (f i).length ≤ 100000000) :
    Calls Try.prog 19 #[.agg #[L 0, L 1, L 2, L 3, .int .i64 log, .int .i64 next, .int .i64 seq]] w (FilesPost w f) := by
  obtain ⟨w1, hw1⟩ : ∃ w1, w1 = w.alloc (.cells #[L 0, L 1, L 2, L 3, .int .i64 log, .int .i64 next, .int .i64 seq] 68) := ⟨_, rfl⟩
  have hc1 : Chg (fun _ => False) w w1 := by rw [hw1]; ((repeat (first | exact Chg.refl _ _ | assumption | refine Chg.drewN ?_ _ | refine Chg.drew ?_ | refine Chg.alloc ?_ _ | refine Chg.setCell ?_ (by first | (simp; done) | (simp; omega) | (intro h; simp at h; omega)) _)))
  have hb1 : Blk w1 w.heap.size 68 #[L 0, L 1, L 2, L 3, .int .i64 log, .int .i64 next, .int .i64 seq] := by rw [hw1]; exact Blk.new w _ _
  have y0 := hb1.cell 0
  have y1 := hb1.cell 1
  have y2 := hb1.cell 2
  have y3 := hb1.cell 3
  simp at y0 y1 y2 y3
  have HW1 := Lib.hid hw1
  have HC1 := Lib.hid hc1
  have H := Lib.hid h
  have HN := Lib.hid hn
  have HIX := Lib.hid (fun (k : Nat) (hk : k < 4) (w : World) => run_index4 L hk w)
  clear hw1 hc1 hb1 h hn
  go_enter Try.func19, Try.ntmps19
  go_wp2_with fail
  rw [← HW1.out]
  go_wp2_with fail
  go_loopw [3, 10] (fun out i wr => ∃ k : Nat, k ≤ 4 ∧ i = .int .i64 k ∧ Lst i64C wr out (upTo f k) ∧ (∀ b, out.ownBlock = some b → w1.heap.size ≤ b) ∧ Chg (fun _ => False) w1 wr) (fun _ i _ => 4 - (intOf i).toNat)
  case atStart => exact ⟨0, by omega, rfl, Lst.nil _ _, by simp [Value.ownBlock], Chg.refl _ _⟩
  case round =>
    obtain ⟨k, hk4, rfl, hO, hk, hc⟩ := hrel
    have hlen := upTo_len f 100000000 k (fun i hi => HN.out i (by omega))
    by_cases hlt : k < 4
    · obtain ⟨F, hF⟩ : ∃ F, upTo f k = F := ⟨_, rfl⟩
      rw [hF] at hO hlen
      obtain ⟨oa, oc, rfl, hoc, hon, _⟩ := i64_form hO
      have hix := HIX.out k hlt
      obtain ⟨la, lc, hL, hlc, hln, hread⟩ := meta_form (H.out k hlt)
      rw [hL] at hix
      have hnk := HN.out k hlt
      have hlt' : (k : Int) < 4 := by omega
      have HR := Lib.hid hread
      have HL := Lib.hid hL
      have HO := Lib.hid hO
      have HK := Lib.hid hk
      have HC := Lib.hid hc
      obtain ⟨wo, hwo⟩ : ∃ wo : World, wo = wr := ⟨_, rfl⟩
      subst hwo
      have HF := Lib.hid hF
      clear hread hL hO hk hc hF
      go_wp2_with fail
      go_loopw [3, 15] (fun out i wr => ∃ A R, f k = A ++ R ∧ i = .int .i64 A.length ∧ Lst i64C wr out (F ++ A.map (·.file)) ∧ (∀ b, out.ownBlock = some b → w1.heap.size ≤ b) ∧ Chg (fun _ => False) w1 wr) (fun _ i _ => (f k).length - (intOf i).toNat)
      case atStart => exact ⟨[], f k, rfl, rfl, by simpa using HO.out, HK.out, HC.out⟩
      case round =>
        obtain ⟨A, R, hfk, rfl, hO2, hk2, hc2⟩ := hrel
        have hAl : A.length ≤ (f k).length := by rw [hfk]; simp
        obtain ⟨G, hG⟩ : ∃ G, F ++ A.map (·.file) = G := ⟨_, rfl⟩
        have hGl : G.length ≤ 500000000 := by rw [← hG, List.length_append, List.length_map]; omega
        rw [hG] at hO2
        obtain ⟨pa, pc, rfl, hpc, hpn, _⟩ := i64_form hO2
        have HO2 := Lib.hid hO2
        have HK2 := Lib.hid hk2
        have HC2 := Lib.hid hc2
        have HG := Lib.hid hG
        have hcs := hc2.size
        cases R with
        | nil =>
          have hge : ¬ ((A.length : Int) < ((f k).length : Int)) := by rw [hfk]; simp
          have hend : upTo f (k + 1) = G := by rw [upTo_succ, HF.out, ← hG, hfk]; simp
          have HE := Lib.hid hend
          clear hfk hO2 hk2 hc2 hG hend
          go_wp2_with fail
          go_roundw
          case rel => exact ⟨k + 1, by omega, by go_num, by rw [HE.out]; exact HO2.out, HK2.out, HC2.out⟩
          case measure => simp [intOf]; omega
        | cons x B =>
          obtain ⟨b, rfl, hb, _, z0, z1, z2, z3⟩ := HR.out A x B hfk
          have hc3 := HC1.out.then hc2
          have z0' := (hc3.cell (p := ⟨b, A.length * 4, none⟩) hb (by simp)).trans z0
          have z1' := (hc3.cell (p := ⟨b, A.length * 4 + 1, none⟩) hb (by simp)).trans z1
          have z2' := (hc3.cell (p := ⟨b, A.length * 4 + 2, none⟩) hb (by simp)).trans z2
          have z3' := (hc3.cell (p := ⟨b, A.length * 4 + 3, none⟩) hb (by simp)).trans z3
          have hlt2 : (A.length : Int) < ((f k).length : Int) := by rw [hfk]; simp; omega
          have hge : (0 : Int) ≤ (A.length : Int) := by omega
          have hf2 : f k = (A ++ [x]) ++ B := by rw [hfk]; simp
          have HF2 := Lib.hid hf2
          clear hfk hO2 hk2 hc2 hG hf2 hc3 z0 z1 z2 z3
          go_wp2_with (at_builtin; refine wpList_lst_app i64Ok _ (by rfl) _ _ (by rfl) G _ x.file (by rfl) (HO2.out.same (by ((repeat (first | exact Chg.refl _ _ | assumption | refine Chg.drewN ?_ _ | refine Chg.drew ?_ | refine Chg.alloc ?_ _ | refine Chg.setCell ?_ (by first | (simp; done) | (simp; omega) | (intro h; simp at h; omega)) _))))) _ (by rfl) (by omega) (Blk.new1 _ _ _ _) ?_)
          intro v' w' hO' hcg hb'
          have hk' : ∀ b, v'.ownBlock = some b → w1.heap.size ≤ b := fun k' hk' => by
            rcases hb' k' hk' with e | e
            · exact HK2.out k' e
            · first | omega | (simp at e; omega)
          have hc' : Chg (fun _ => False) w1 w' := Chg.trans (by have := HC2.out; ((repeat (first | exact Chg.refl _ _ | assumption | refine Chg.drewN ?_ _ | refine Chg.drew ?_ | refine Chg.alloc ?_ _ | refine Chg.setCell ?_ (by first | (simp; done) | (simp; omega) | (intro h; simp at h; omega)) _)))) hcg (fun k hk e => by have := HK2.out k e; omega)
          have HO' := Lib.hid hO'
          have HK' := Lib.hid hk'
          have HC' := Lib.hid hc'
          clear hO' hcg hb' hk' hc'
          go_wp2_with fail
          go_roundw
          case rel => exact ⟨A ++ [x], B, HF2.out, by simp, by have := HO'.out; rw [← HG.out] at this; simpa using this, HK'.out, HC'.out⟩
          case measure => simp [intOf]; omega
    · obtain rfl : k = 4 := by omega
      obtain ⟨F, hF⟩ : ∃ F, upTo f 4 = F := ⟨_, rfl⟩
      rw [hF] at hO hlen
      obtain ⟨oa, oc, rfl, hoc, hon, _⟩ := i64_form hO
      have hs := sort_ints _ F (by omega) wr hO
      have hF2 : F = filesOf (flatF f) := by rw [← hF, upTo_all]
      have HF2 := Lib.hid hF2
      have HK := Lib.hid hk
      have HC := Lib.hid hc
      have HC1' := Lib.hid (HC1.out.then HC.out)
      have hcs := HC1.out.size
      have HS := Lib.hid hs
      clear hO hF hF2 hk hc hs
      go_wp2_with fail
      refine HS.out.mono ?_
      rintro e w' ⟨rfl, hO', hc'⟩
      have hfin : Chg (fun _ => False) w w' := HC1'.out.trans hc' (fun k hk e => by have := HK.out k e; omega)
      have HO' := Lib.hid hO'
      have HF := Lib.hid hfin
      clear hO' hfin hc'
      go_wp2_with fail
      go_ret
      refine ⟨_, rfl, by rw [← HF2.out]; exact HO'.out, fun k hk => by have := HK.out k hk; omega, HF.out⟩
end Go.Proofs.Ytahahginmgidjaa
