/-
  The program's version: Apply, whole.
  The document's version: has, files, ahead, with.
  The document's version: Apply.
-/
import Derived.Test.YtahahginmgidjaaGreatDoorZVerG1
import Derived.Test.YtahahginmgidjaaGreatDoorZVerG2
import Derived.Test.YtahahginmgidjaaGreatDoorZVerG3
import Derived.Test.YtahahginmgidjaaGreatDoorZVerG4
import Derived.Test.YtahahginmgidjaaGreatDoorZVerG5
import Derived.Test.YtahahginmgidjaaGreatDoorZMg13
import Derived.Deep.RegionHeld3
import Derived.StillTailTactics
import Derived.Deep.DeepCutAuto
namespace Go.Proofs.YtahahginmgidjaaGreatDoor
open Go.RowKit
theorem ver_apply (S : VerV) (E : EditV) (L : Nat → Value) (av dv : Value) (w : World) (hS : Good S) (hEo : EdOk E) (hnx : I64 S.next) (hv : VerAt w L S.lv) (ha : Lst placeC w av E.add) (hd : Lst i64C w dv E.drop)
    (hSl : ∀ i, i < 4 → (S.lv i).length ≤ 50000000) (hA : E.add.length ≤ 50000000) (hD : E.drop.length ≤ 50000000) :
    Calls Tryz.prog 24 #[.agg #[L 0, L 1, L 2, L 3, .int .i64 S.log, .int .i64 S.next, .int .i64 S.seq], .agg #[av, dv, .int .i64 E.log, .int .i64 E.next, .int .i64 E.seq]] w (VApplyPost w S E) := by
  by_cases h1 : okNums S E
  · by_cases h2 : okDrops (filesOf (flat S)) E.drop
    · by_cases h3 : okAdds (filesOf (flat S)) E.next E.add
      · by_cases h4 : ∀ i, 1 ≤ i → i < 4 → ((nextV S E).lv i).Pairwise Apart
        · exact ver_apply_ok S E L av dv w hS hEo hnx hv ha hd hSl hA hD ⟨h1, h2, h3, h4⟩
        · exact ver_apply_pairs S E L av dv w hS hEo hnx hv ha hd hSl hA hD h1 h2 h3 h4
      · exact ver_apply_adds S E L av dv w hS hEo hnx hv ha hd hSl hA hD h1 h2 h3
    · exact ver_apply_drops S E L av dv w hS hEo hnx hv ha hd hSl hA hD h1 h2
  · exact ver_apply_nums S E L av dv w hS hEo hnx hv ha hd hSl hA hD h1
end Go.Proofs.YtahahginmgidjaaGreatDoor
namespace Go.Proofs.YtahahginmgidjaaGreatDoor
open Go.RowKit
set_option linter.unusedVariables false
set_option linter.unusedSimpArgs false

theorem doc_get {w : World} {v : Value} {l : List PlaceV} (h : Lst docC w v l) : ∃ a cap, v = .slice a l.length cap ∧ l.length ≤ cap ∧ l.length ≤ 9223372036854775807 ∧ ∀ i x, l[i]? = some x → ∃ b, a = some ⟨b, 0, none⟩ ∧ b < w.heap.size ∧ v.ownBlock = some b ∧
    w.cell? ⟨b, i * 5, none⟩ = some (.int .i64 x.level) ∧ w.cell? ⟨b, i * 5 + 1, none⟩ = some (.int .i64 x.m.file) ∧ w.cell? ⟨b, i * 5 + 2, none⟩ = some (.int .i64 x.m.size) ∧ w.cell? ⟨b, i * 5 + 3, none⟩ = some (.string x.m.lo) ∧ w.cell? ⟨b, i * 5 + 4, none⟩ = some (.string x.m.hi) := by
  obtain ⟨a, cap, e, h1, h2, h3⟩ := doc_form h
  refine ⟨a, cap, e, h1, h2, fun i x hx => ?_⟩
  obtain ⟨hi, rfl⟩ := List.getElem?_eq_some_iff.1 hx
  have hl : l = l.take i ++ l[i] :: l.drop (i + 1) := by rw [← List.drop_eq_getElem_cons, List.take_append_drop]
  have := h3 (l.take i) l[i] (l.drop (i + 1)) hl
  rw [List.length_take, Nat.min_eq_left (by omega)] at this
  exact this
/-- Is the number in the list? -/
def hasB (l : List Int) (n : Int) : Bool := l.contains n
set_option maxRecDepth 100000 in
set_option maxHeartbeats 1000000 in
theorem doc_has (l : List Int) (n : Int) (v : Value) (w : World) (h : Lst i64C w v l) :
    Calls Tryz.prog 85 #[v, .int .i64 n] w fun e w' => e = .returned (.bool (hasB l n)) ∧ w = w' := by
  obtain ⟨a, cap, rfl, hcap, hn, hread⟩ := i64_form h
  have HR := Lib.hid hread
  clear hread h
  go_enter Tryz.func85, Tryz.ntmps85
  go_wp2_with fail
  go_loop [5] (fun i => ∃ A R, l = A ++ R ∧ i = .int .i64 A.length ∧ hasB l n = hasB R n) (fun i => l.length - (intOf i).toNat)
  case atStart => exact ⟨[], l, rfl, rfl, rfl⟩
  case round =>
    obtain ⟨A, R, hL, rfl, hf⟩ := hrel
    cases R with
    | nil =>
      have hge : ¬ ((A.length : Int) < (l.length : Int)) := by rw [hL]; simp
      have HF := Lib.hid hf
      clear hL hf
      go_wp2_with fail
      go_ret
      exact ⟨by rw [HF.out]; rfl, rfl⟩
    | cons x B =>
      obtain ⟨b, rfl, hb, _, z0⟩ := HR.out A x B hL
      have hlt : (A.length : Int) < (l.length : Int) := by rw [hL]; simp; omega
      have hge : (0 : Int) ≤ (A.length : Int) := by omega
      have hle : A.length ≤ l.length := by omega
      have hL2 : l = (A ++ [x]) ++ B := by rw [hL]; simp
      have HL := Lib.hid hL2
      by_cases hx : x = n
      · subst hx
        have hf2 : hasB l x = true := by rw [hf]; simp [hasB]
        have HF := Lib.hid hf2
        clear hL hf hL2 hf2
        go_wp2_with fail
        go_ret
        exact ⟨by rw [HF.out]; rfl, rfl⟩
      · have hf2 : hasB l n = hasB B n := by
          have hx' : ¬ n = x := fun e => hx e.symm
          rw [hf]; simp [hasB, hx']
        have HF := Lib.hid hf2
        clear hL hf hL2 hf2
        go_wp2_with fail
        go_round
        case rel => exact ⟨A ++ [x], B, HL.out, by simp, HF.out⟩
        case measure => simp [intOf]; omega

/-- A list of the call's own is returned. -/
def LPost {α : Type} (C : Codec α) (w : World) (l : List α) (e : Ending) (w' : World) : Prop :=
  ∃ v, e = .returned v ∧ Lst C w' v l ∧ (∀ k, v.ownBlock = some k → w.heap.size ≤ k) ∧ Chg (fun _ => False) w w'
set_option maxRecDepth 100000 in
set_option maxHeartbeats 2000000 in
theorem doc_files (l : List PlaceV) (v : Value) (hlen : l.length ≤ 900000000) (w : World) (h : Lst docC w v l) :
    Calls Tryz.prog 84 #[v] w (LPost i64C w (filesOf l)) := by
  obtain ⟨a, cap, rfl, hcap, hn, hread⟩ := doc_form h
  have HR := Lib.hid hread
  clear hread h
  go_enter Tryz.func84, Tryz.ntmps84
  go_wp2_with fail
  go_loopw [3, 4] (fun out i wr => ∃ A R, l = A ++ R ∧ i = .int .i64 A.length ∧ Lst i64C wr out (filesOf A) ∧ (∀ k, out.ownBlock = some k → w.heap.size ≤ k) ∧ Chg (fun _ => False) w wr) (fun _ i _ => l.length - (intOf i).toNat)
  case atStart => exact ⟨[], l, rfl, rfl, Lst.nil _ _, by simp [Value.ownBlock], Chg.refl _ _⟩
  case round =>
    obtain ⟨A, R, hL, rfl, hO, hk, hc⟩ := hrel
    obtain ⟨F, hF⟩ : ∃ F, filesOf A = F := ⟨_, rfl⟩
    rw [hF] at hO
    obtain ⟨oa, oc, rfl, _, _, _⟩ := i64_form hO
    have hAl : A.length ≤ l.length := by rw [hL]; simp
    have hFl : F.length = A.length := by rw [← hF]; simp [filesOf]
    have hFl2 : F.length ≤ 900000000 := by omega
    have hcs := hc.size
    have HF := Lib.hid hF
    have HO := Lib.hid hO
    have HK := Lib.hid hk
    have HC := Lib.hid hc
    clear hO hk hc hF hFl
    cases R with
    | nil =>
      have hge : ¬ ((A.length : Int) < (l.length : Int)) := by rw [hL]; simp
      have hlA : filesOf l = F := by rw [← HF.out, hL]; simp
      have HLA := Lib.hid hlA
      clear hL hlA
      go_wp2_with fail
      go_ret
      exact ⟨_, rfl, by rw [HLA.out]; exact HO.out, HK.out, HC.out⟩
    | cons x B =>
      obtain ⟨b, rfl, hb, _, _, z1, _⟩ := HR.out A x B hL
      have z1' := (HC.out.cell (p := ⟨b, A.length * 5 + 1, none⟩) hb (by simp)).trans z1
      have hlt : (A.length : Int) < (l.length : Int) := by rw [hL]; simp; omega
      have hge : (0 : Int) ≤ (A.length : Int) := by omega
      have hL2 : l = (A ++ [x]) ++ B := by rw [hL]; simp
      have HL := Lib.hid hL2
      clear hL hL2 z1
      go_wp2_with (at_builtin; refine wpList_lst_app i64Ok _ (by rfl) _ _ (by rfl) F _ x.m.file (by rfl) (HO.out.same (by ((repeat (first | exact Chg.refl _ _ | assumption | refine Chg.drewN ?_ _ | refine Chg.drew ?_ | refine Chg.alloc ?_ _ | refine Chg.setCell ?_ (by first | (simp; done) | (simp; omega) | (intro h; simp at h; omega)) _))))) _ (by rfl) (by omega) (Blk.new _ _ _) ?_)
      intro v' w' hO' hcg hb'
      have hk' : ∀ b, v'.ownBlock = some b → w.heap.size ≤ b := fun k' hk' => by
        rcases hb' k' hk' with e | e
        · exact HK.out k' e
        · first | omega | (simp at e; omega)
      have hc' : Chg (fun _ => False) w w' := Chg.trans (by have := HC.out; ((repeat (first | exact Chg.refl _ _ | assumption | refine Chg.drewN ?_ _ | refine Chg.drew ?_ | refine Chg.alloc ?_ _ | refine Chg.setCell ?_ (by first | (simp; done) | (simp; omega) | (intro h; simp at h; omega)) _)))) hcg (fun k hk e => by have := HK.out k e; omega)
      have HO' := Lib.hid hO'
      have HK' := Lib.hid hk'
      have HC' := Lib.hid hc'
      clear hO' hcg hb' hk' hc'
      go_wp2_with fail
      go_roundw
      case rel => exact ⟨A ++ [x], B, HL.out, by simp, by have := HO'.out; rw [← HF.out] at this; simpa [filesOf] using this, HK'.out, HC'.out⟩
      case measure => simp [intOf]; omega

set_option maxRecDepth 100000 in
set_option maxHeartbeats 1000000 in
theorem doc_ahead (a b : PlaceV) (w : World) : Calls Tryz.prog 135 #[.agg #[.int .i64 a.level, .int .i64 a.m.file, .int .i64 a.m.size, .string a.m.lo, .string a.m.hi], .agg #[.int .i64 b.level, .int .i64 b.m.file, .int .i64 b.m.size, .string b.m.lo, .string b.m.hi]] w
    fun e w' => e = .returned (.bool (aheadV a b)) ∧ (w.alloc (.cells #[.int .i64 a.level, .int .i64 a.m.file, .int .i64 a.m.size, .string a.m.lo, .string a.m.hi] 120)).alloc (.cells #[.int .i64 b.level, .int .i64 b.m.file, .int .i64 b.m.size, .string b.m.lo, .string b.m.hi] 120) = w' := by
  obtain ⟨l1, f1, s1, lo1, hi1⟩ := a
  obtain ⟨l2, f2, s2, lo2, hi2⟩ := b
  simp only
  by_cases h0 : l1 = l2
  · subst h0
    by_cases h1 : l1 = 0
    · subst h1
      have hr : aheadV ⟨0, f1, s1, lo1, hi1⟩ ⟨0, f2, s2, lo2, hi2⟩ = decide (f1 > f2) := by simp [aheadV]
      rw [hr]
      clear hr
      go_enter Tryz.func135, Tryz.ntmps135
      go_wp2
      go_ret
      exact ⟨rfl, rfl⟩
    · have hr : aheadV ⟨l1, f1, s1, lo1, hi1⟩ ⟨l1, f2, s2, lo2, hi2⟩ = Op.bytesLess lo1.toList lo2.toList := by simp [aheadV, h1, sl]
      rw [hr]
      clear hr
      go_enter Tryz.func135, Tryz.ntmps135
      go_wp2
      go_ret
      exact ⟨rfl, rfl⟩
  · have hr : aheadV ⟨l1, f1, s1, lo1, hi1⟩ ⟨l2, f2, s2, lo2, hi2⟩ = decide (l1 < l2) := by simp [aheadV, h0]
    rw [hr]
    clear hr
    go_enter Tryz.func135, Tryz.ntmps135
    go_wp2
    go_ret
    exact ⟨rfl, rfl⟩
/-- with, from the place on where it stands: p: has m been put? -/
def wgoV (m : PlaceV) : Bool → List PlaceV → List PlaceV
  | p, [] => if p then [] else [m]
  | p, y :: r => if aheadV m y && !p then m :: y :: wgoV m true r else y :: wgoV m p r
theorem wgoV_true (m : PlaceV) : ∀ l, wgoV m true l = l
  | [] => rfl
  | y :: r => by simp [wgoV, wgoV_true m r]
theorem wgoV_eq (m : PlaceV) : ∀ l, wgoV m false l = withV l m
  | [] => rfl
  | y :: r => by
    unfold wgoV withV insG
    by_cases h : aheadV m y = true
    · simp [h, wgoV_true]
    · rw [Bool.not_eq_true] at h
      have ih := wgoV_eq m r
      unfold withV at ih
      simp [h, ih]

set_option maxRecDepth 100000 in
set_option maxHeartbeats 4000000 in
theorem doc_with (l : List PlaceV) (m : PlaceV) (v : Value) (hlen : l.length ≤ 900000000) (w : World) (h : Lst docC w v l) :
    Calls Tryz.prog 86 #[v, .agg #[.int .i64 m.level, .int .i64 m.m.file, .int .i64 m.m.size, .string m.m.lo, .string m.m.hi]] w (LPost docC w (withV l m)) := by
  obtain ⟨a, cap, rfl, hcap, hn, hread⟩ := doc_form h
  obtain ⟨w1, hw1⟩ : ∃ w1, w1 = w.alloc (.cells #[.int .i64 m.level, .int .i64 m.m.file, .int .i64 m.m.size, .string m.m.lo, .string m.m.hi] 120) := ⟨_, rfl⟩
  have hc1 : Chg (fun _ => False) w w1 := by rw [hw1]; ((repeat (first | exact Chg.refl _ _ | assumption | refine Chg.drewN ?_ _ | refine Chg.drew ?_ | refine Chg.alloc ?_ _ | refine Chg.setCell ?_ (by first | (simp; done) | (simp; omega) | (intro h; simp at h; omega)) _)))
  have hb1 : Blk w1 w.heap.size 120 #[.int .i64 m.level, .int .i64 m.m.file, .int .i64 m.m.size, .string m.m.lo, .string m.m.hi] := by rw [hw1]; exact Blk.new w _ _
  have hsz1 : w1.heap.size = w.heap.size + 1 := by rw [hw1]; simp
  have HR := Lib.hid hread
  have HW1 := Lib.hid hw1
  have HB1 := Lib.hid hb1
  have HC1 := Lib.hid hc1
  have HWR := Lib.hid (wgoV_eq m l)
  clear hread h hw1 hb1 hc1
  go_enter Tryz.func86, Tryz.ntmps86
  go_wp2_with fail
  rw [← HW1.out]
  go_loopw [5, 6, 7] (fun out put i wr => ∃ A R O p, l = A ++ R ∧ i = .int .i64 A.length ∧ put = .bool p ∧ Lst docC wr out O ∧ O ++ wgoV m p R = withV l m ∧ O.length ≤ A.length + 1 ∧ (p = false → O.length ≤ A.length) ∧ (∀ k, out.ownBlock = some k → w1.heap.size ≤ k) ∧ Chg (fun _ => False) w1 wr) (fun _ _ i _ => l.length - (intOf i).toNat)
  case atStart => exact ⟨[], l, [], false, rfl, rfl, rfl, Lst.nil _ _, by simpa using HWR.out, by simp, by simp, by simp [Value.ownBlock], Chg.refl _ _⟩
  case round =>
    obtain ⟨A, R, O, p, hL, rfl, rfl, hO, hgo, hll, hlf, hk, hc⟩ := hrel
    obtain ⟨oa, oc, rfl, hoc, hon, _⟩ := doc_form hO
    have hcs := hc.size
    have b1 := HB1.out.chg hc (by simp)
    have y0 := b1.cell 0
    have y1 := b1.cell 1
    have y2 := b1.cell 2
    have y3 := b1.cell 3
    have y4 := b1.cell 4
    simp at y0 y1 y2 y3 y4
    have HO := Lib.hid hO
    have HG := Lib.hid hgo
    have HK := Lib.hid hk
    have HC := Lib.hid hc
    have hAl : A.length ≤ l.length := by rw [hL]; simp
    clear hO hgo hk hc b1
    cases R with
    | nil =>
      have hge : ¬ ((A.length : Int) < (l.length : Int)) := by rw [hL]; simp
      clear hL
      cases p with
      | true =>
        go_wp2_with fail
        go_ret
        refine ⟨_, rfl, ?_, fun k hk => by have := HK.out k hk; omega, HC1.out.then HC.out⟩
        have := HG.out
        simp only [wgoV, if_true, List.append_nil] at this
        rw [← this]; exact HO.out
      | false =>
        go_wp2_with (at_builtin; refine wpList_lst_app docOk _ (by rfl) _ _ (by rfl) O _ m (by rfl) (HO.out.same (by ((repeat (first | exact Chg.refl _ _ | assumption | refine Chg.drewN ?_ _ | refine Chg.drew ?_ | refine Chg.alloc ?_ _ | refine Chg.setCell ?_ (by first | (simp; done) | (simp; omega) | (intro h; simp at h; omega)) _))))) _ (by rfl) (by omega) (Blk.new _ _ _) ?_)
        intro v' w' hO' hcg hb
        have hk' : ∀ b, v'.ownBlock = some b → w.heap.size ≤ b := fun k' hk' => by
          rcases hb k' hk' with e | e
          · have := HK.out k' e; omega
          · first | omega | (simp at e; omega)
        have hfin : Chg (fun _ => False) w w' := HC1.out.then (Chg.trans (by have := HC.out; ((repeat (first | exact Chg.refl _ _ | assumption | refine Chg.drewN ?_ _ | refine Chg.drew ?_ | refine Chg.alloc ?_ _ | refine Chg.setCell ?_ (by first | (simp; done) | (simp; omega) | (intro h; simp at h; omega)) _)))) hcg (fun k hk e => by have := HK.out k e; omega))
        have HO' := Lib.hid hO'
        have HK' := Lib.hid hk'
        have HF := Lib.hid hfin
        clear hO' hcg hb hfin hk'
        go_wp2_with fail
        go_ret
        refine ⟨_, rfl, ?_, HK'.out, HF.out⟩
        have := HG.out
        simp only [wgoV, Bool.false_eq_true, if_false] at this
        rw [← this]; exact HO'.out
    | cons q B =>
      obtain ⟨b, rfl, hb, _, z0, z1, z2, z3, z4⟩ := HR.out A q B hL
      have hc3 := HC1.out.then HC.out
      have z0' := (hc3.cell (p := ⟨b, A.length * 5, none⟩) hb (by simp)).trans z0
      have z1' := (hc3.cell (p := ⟨b, A.length * 5 + 1, none⟩) hb (by simp)).trans z1
      have z2' := (hc3.cell (p := ⟨b, A.length * 5 + 2, none⟩) hb (by simp)).trans z2
      have z3' := (hc3.cell (p := ⟨b, A.length * 5 + 3, none⟩) hb (by simp)).trans z3
      have z4' := (hc3.cell (p := ⟨b, A.length * 5 + 4, none⟩) hb (by simp)).trans z4
      have hlt : (A.length : Int) < (l.length : Int) := by rw [hL]; simp; omega
      have hge : (0 : Int) ≤ (A.length : Int) := by omega
      have hL2 : l = (A ++ [q]) ++ B := by rw [hL]; simp
      have HL := Lib.hid hL2
      have hg2 : O ++ (if aheadV m q && !p then m :: q :: wgoV m true B else q :: wgoV m p B) = withV l m := HG.out
      have HG2 := Lib.hid hg2
      have hah := fun W => doc_ahead m q W
      have hblt : b < wr.heap.size := by omega
      have hwl : w.heap.size < wr.heap.size := by omega
      have Z := Lib.hid (And.intro z0 (And.intro z1 (And.intro z2 (And.intro z3 z4))))
      cases hav : aheadV m q with
      | false =>
        have hg3 : O ++ q :: wgoV m p B = withV l m := by rw [hav] at hg2; simpa using hg2
        have HG3 := Lib.hid hg3
        rw [hav] at hah
        have HAH := Lib.hid hah
        clear hL hL2 z0 z1 z2 z3 z4 hc3 hg2 HG hah hg3 hav HG2
        go_wp2_with fail
        go_still_tail 5, (by kernel_rfl)
        change wpList _ _ _ _ _ wr.drew
        go_wp2_with fail
        refine (HAH.out _).mono ?_
        rintro e w' ⟨rfl, rfl⟩
        go_wp2_with (at_builtin; refine wpList_lst_app docOk _ (by rfl) _ _ (by rfl) O _ q (by rfl) (HO.out.same (by ((repeat (first | exact Chg.refl _ _ | assumption | refine Chg.drewN ?_ _ | refine Chg.drew ?_ | refine Chg.alloc ?_ _ | refine Chg.setCell ?_ (by first | (simp; done) | (simp; omega) | (intro h; simp at h; omega)) _))))) _ (by rfl) (by omega) (by (first | exact Blk.new _ _ _ | exact Blk.new1 _ _ _ _ | exact Blk.new2 _ _ _ _ _ | exact Blk.drew (Blk.new _ _ _) | exact Blk.drew (Blk.new1 _ _ _ _) | exact Blk.drew (Blk.new2 _ _ _ _ _) | exact Blk.drew (Blk.drew (Blk.new _ _ _)) | exact Blk.drewN (Blk.new _ _ _) _ | exact Blk.drewN (Blk.new1 _ _ _ _) _)) ?_)
        intro v' w' hO' hcg hb'
        have hk' : ∀ b, v'.ownBlock = some b → w1.heap.size ≤ b := fun k' hk' => by
          rcases hb' k' hk' with e | e
          · exact HK.out k' e
          · first | omega | (simp at e; omega)
        have hc' : Chg (fun _ => False) w1 w' := Chg.trans (by have := HC.out; ((repeat (first | exact Chg.refl _ _ | assumption | refine Chg.drewN ?_ _ | refine Chg.drew ?_ | refine Chg.alloc ?_ _ | refine Chg.setCell ?_ (by first | (simp; done) | (simp; omega) | (intro h; simp at h; omega)) _)))) hcg (fun k hk e => by have := HK.out k e; omega)
        have HO' := Lib.hid hO'
        have HK' := Lib.hid hk'
        have HC' := Lib.hid hc'
        clear hO' hcg hb' hk' hc'
        go_wp2_with fail
        go_roundw
        case rel => exact ⟨A ++ [q], B, O ++ [q], _, HL.out, by simp, rfl, HO'.out, by have := HG3.out; simpa using this, by simp; omega, (fun e => by have := hlf e; simp; omega), HK'.out, HC'.out⟩
        case measure => simp [intOf]; omega
      | true =>
        rw [hav] at hah
        have HAH := Lib.hid hah
        cases p with
        | true =>
          have hg3 : O ++ q :: wgoV m true B = withV l m := by rw [hav] at hg2; simpa using hg2
          have HG3 := Lib.hid hg3
          clear hL hL2 z0 z1 z2 z3 z4 hc3 hg2 HG hah hg3 hav HG2
          go_wp2_with fail
          go_still_tail 5, (by kernel_rfl)
          change wpList _ _ _ _ _ wr.drew
          go_wp2_with fail
          refine (HAH.out _).mono ?_
          rintro e w' ⟨rfl, rfl⟩
          go_wp2_with (at_builtin; refine wpList_lst_app docOk _ (by rfl) _ _ (by rfl) O _ q (by rfl) (HO.out.same (by ((repeat (first | exact Chg.refl _ _ | assumption | refine Chg.drewN ?_ _ | refine Chg.drew ?_ | refine Chg.alloc ?_ _ | refine Chg.setCell ?_ (by first | (simp; done) | (simp; omega) | (intro h; simp at h; omega)) _))))) _ (by rfl) (by omega) (by (first | exact Blk.new _ _ _ | exact Blk.new1 _ _ _ _ | exact Blk.new2 _ _ _ _ _ | exact Blk.drew (Blk.new _ _ _) | exact Blk.drew (Blk.new1 _ _ _ _) | exact Blk.drew (Blk.new2 _ _ _ _ _) | exact Blk.drew (Blk.drew (Blk.new _ _ _)) | exact Blk.drewN (Blk.new _ _ _) _ | exact Blk.drewN (Blk.new1 _ _ _ _) _)) ?_)
          intro v' w' hO' hcg hb'
          have hk' : ∀ b, v'.ownBlock = some b → w1.heap.size ≤ b := fun k' hk' => by
            rcases hb' k' hk' with e | e
            · exact HK.out k' e
            · first | omega | (simp at e; omega)
          have hc' : Chg (fun _ => False) w1 w' := Chg.trans (by have := HC.out; ((repeat (first | exact Chg.refl _ _ | assumption | refine Chg.drewN ?_ _ | refine Chg.drew ?_ | refine Chg.alloc ?_ _ | refine Chg.setCell ?_ (by first | (simp; done) | (simp; omega) | (intro h; simp at h; omega)) _)))) hcg (fun k hk e => by have := HK.out k e; omega)
          have HO' := Lib.hid hO'
          have HK' := Lib.hid hk'
          have HC' := Lib.hid hc'
          clear hO' hcg hb' hk' hc'
          go_wp2_with fail
          go_roundw
          case rel => exact ⟨A ++ [q], B, O ++ [q], _, HL.out, by simp, rfl, HO'.out, by have := HG3.out; simpa using this, by simp; omega, (fun e => by first | (cases e; done) | (have := hlf e; simp; omega)), HK'.out, HC'.out⟩
          case measure => simp [intOf]; omega
        | false =>
          have hlf' := hlf rfl
          have hg3 : O ++ m :: q :: wgoV m true B = withV l m := by rw [hav] at hg2; simpa using hg2
          have HG3 := Lib.hid hg3
          clear hL hL2 z0 z1 z2 z3 z4 hc3 hg2 HG hah hg3 hav HG2
          go_wp2_with fail
          go_still_tail 5, (by kernel_rfl)
          change wpList _ _ _ _ _ wr.drew
          go_wp2_with fail
          refine (HAH.out _).mono ?_
          rintro e w' ⟨rfl, rfl⟩
          go_wp2_with (at_builtin; refine wpList_lst_app docOk _ (by rfl) _ _ (by rfl) O _ m (by rfl) (HO.out.same (by ((repeat (first | exact Chg.refl _ _ | assumption | refine Chg.drewN ?_ _ | refine Chg.drew ?_ | refine Chg.alloc ?_ _ | refine Chg.setCell ?_ (by first | (simp; done) | (simp; omega) | (intro h; simp at h; omega)) _))))) _ (by rfl) (by omega) (by (first | exact Blk.new _ _ _ | exact Blk.new1 _ _ _ _ | exact Blk.new2 _ _ _ _ _ | exact Blk.drew (Blk.new _ _ _) | exact Blk.drew (Blk.new1 _ _ _ _) | exact Blk.drew (Blk.new2 _ _ _ _ _) | exact Blk.drew (Blk.drew (Blk.new _ _ _)) | exact Blk.drewN (Blk.new _ _ _) _ | exact Blk.drewN (Blk.new1 _ _ _ _) _)) ?_)
          intro v5 w5 hO5 hcg5 hb5
          obtain ⟨O5, hO5e⟩ : ∃ O5, O5 = O ++ [m] := ⟨_, rfl⟩
          rw [← hO5e] at hO5
          have hO5l : O5.length ≤ O.length + 1 := by rw [hO5e]; simp
          obtain ⟨oa5, oc5, rfl, _, _, _⟩ := doc_form hO5
          have hk5 : ∀ b, (Value.slice oa5 O5.length oc5).ownBlock = some b → w1.heap.size ≤ b := fun k' hk' => by
            rcases hb5 k' hk' with e | e
            · exact HK.out k' e
            · first | omega | (simp at e; omega)
          have hc5 : Chg (fun _ => False) w1 w5 := Chg.trans (by have := HC.out; ((repeat (first | exact Chg.refl _ _ | assumption | refine Chg.drewN ?_ _ | refine Chg.drew ?_ | refine Chg.alloc ?_ _ | refine Chg.setCell ?_ (by first | (simp; done) | (simp; omega) | (intro h; simp at h; omega)) _)))) hcg5 (fun k hk e => by have := HK.out k e; omega)
          have hc6 := HC1.out.then hc5
          have x0' := (hc6.cell (p := ⟨b, A.length * 5, none⟩) hb (by simp)).trans Z.out.1
          have x1' := (hc6.cell (p := ⟨b, A.length * 5 + 1, none⟩) hb (by simp)).trans Z.out.2.1
          have x2' := (hc6.cell (p := ⟨b, A.length * 5 + 2, none⟩) hb (by simp)).trans Z.out.2.2.1
          have x3' := (hc6.cell (p := ⟨b, A.length * 5 + 3, none⟩) hb (by simp)).trans Z.out.2.2.2.1
          have x4' := (hc6.cell (p := ⟨b, A.length * 5 + 4, none⟩) hb (by simp)).trans Z.out.2.2.2.2
          have hcs5 := hc5.size
          have HO5 := Lib.hid hO5
          have HO5E := Lib.hid hO5e
          have HK5 := Lib.hid hk5
          have HC5 := Lib.hid hc5
          clear hO5 hcg5 hb5 hk5 hc5 hc6 hO5e
          go_wp2_with (at_builtin; refine wpList_lst_app docOk _ (by rfl) _ _ (by rfl) O5 _ q (by rfl) (HO5.out.same (by ((repeat (first | exact Chg.refl _ _ | assumption | refine Chg.drewN ?_ _ | refine Chg.drew ?_ | refine Chg.alloc ?_ _ | refine Chg.setCell ?_ (by first | (simp; done) | (simp; omega) | (intro h; simp at h; omega)) _))))) _ (by rfl) (by omega) (by (first | exact Blk.new _ _ _ | exact Blk.new1 _ _ _ _ | exact Blk.new2 _ _ _ _ _ | exact Blk.drew (Blk.new _ _ _) | exact Blk.drew (Blk.new1 _ _ _ _) | exact Blk.drew (Blk.new2 _ _ _ _ _) | exact Blk.drew (Blk.drew (Blk.new _ _ _)) | exact Blk.drewN (Blk.new _ _ _) _ | exact Blk.drewN (Blk.new1 _ _ _ _) _)) ?_)
          intro v' w' hO' hcg hb'
          have hk' : ∀ b, v'.ownBlock = some b → w1.heap.size ≤ b := fun k' hk' => by
            rcases hb' k' hk' with e | e
            · exact HK5.out k' e
            · first | omega | (simp at e; omega)
          have hc' : Chg (fun _ => False) w1 w' := Chg.trans (by have := HC5.out; ((repeat (first | exact Chg.refl _ _ | assumption | refine Chg.drewN ?_ _ | refine Chg.drew ?_ | refine Chg.alloc ?_ _ | refine Chg.setCell ?_ (by first | (simp; done) | (simp; omega) | (intro h; simp at h; omega)) _)))) hcg (fun k hk e => by have := HK5.out k e; omega)
          have HO' := Lib.hid hO'
          have HK' := Lib.hid hk'
          have HC' := Lib.hid hc'
          clear hO' hcg hb' hk' hc'
          go_wp2_with fail
          go_roundw
          case rel => exact ⟨A ++ [q], B, O5 ++ [q], true, HL.out, by simp, rfl, HO'.out, by rw [HO5E.out]; have := HG3.out; simpa using this, by simp; omega, (fun e => by first | (cases e; done) | (have := hlf e; simp; omega)), HK'.out, HC'.out⟩
          case measure => simp [intOf]; omega
end Go.Proofs.YtahahginmgidjaaGreatDoor
namespace Go.Proofs.YtahahginmgidjaaGreatDoor
open Go.RowKit
set_option linter.unusedVariables false
set_option linter.unusedSimpArgs false

/-- What the document's Apply answers: the version behind the edit, or the error and no version. -/
def DApplyPost (w : World) (S : VerV) (E : EditV) (e : Ending) (w' : World) : Prop :=
  Chg (fun _ => False) w w' ∧
  ((okV S E ∧ ∃ v, e = .returned (.tuple #[.agg #[v, .int .i64 E.log, .int .i64 E.next, .int .i64 E.seq], .int .i64 0]) ∧ Lst docC w' v (flat (nextV S E)) ∧ ∀ k, v.ownBlock = some k → w.heap.size ≤ k) ∨
   (¬ okV S E ∧ e = .returned (.tuple #[.agg #[.slice none 0 0, .int .i64 0, .int .i64 0, .int .i64 0], .int .i64 17])))
theorem hasB_iff (l : List Int) (n : Int) : hasB l n = true ↔ n ∈ l := by simp [hasB]
theorem hasB_no (l : List Int) (n : Int) : hasB l n = false ↔ n ∉ l := by rw [← hasB_iff]; simp

theorem fold_with_len : ∀ (A K : List PlaceV), (A.foldl withV K).length ≤ K.length + A.length
  | [], K => by simp
  | p :: A, K => by
    have h1 := fold_with_len A (withV K p)
    have h2 : (withV K p).length = K.length + 1 := (insG_perm p K).length_eq
    rw [List.foldl_cons, List.length_cons]
    omega

/-- No table clashes with an earlier one: of the first m; of the m-th with the first n. -/
def PairsUp (M : List PlaceV) (m : Nat) : Prop := ∀ i k a b, i < m → k < i → M[i]? = some a → M[k]? = some b → ¬ clash a b
def RowUp (M : List PlaceV) (m n : Nat) : Prop := ∀ k a b, k < n → M[m]? = some a → M[k]? = some b → ¬ clash a b
theorem PairsUp.next {M : List PlaceV} {m : Nat} (h : PairsUp M m) (hr : RowUp M m m) : PairsUp M (m + 1) := fun i k a b hi hk ha hb => by
  by_cases e : i = m
  · subst e; exact hr k a b hk ha hb
  · exact h i k a b (by omega) hk ha hb
theorem RowUp.next {M : List PlaceV} {m n : Nat} (h : RowUp M m n) {a b : PlaceV} (ha : M[m]? = some a) (hb : M[n]? = some b) (hc : ¬ clash a b) : RowUp M m (n + 1) := fun k x y hk hx hy => by
  by_cases e : k = n
  · subst e
    rw [ha] at hx; rw [hb] at hy
    cases hx; cases hy
    exact hc
  · exact h k x y (by omega) hx hy
theorem pairs_ok {S : VerV} {E : EditV} {M : List PlaceV} (hM : M = flat (nextV S E)) (h : PairsUp M M.length) : ∀ i, 1 ≤ i → i < 4 → ((nextV S E).lv i).Pairwise Apart := by
  refine (flat_pairs _).1 ?_
  rw [← flat_eq, ← hM, List.pairwise_iff_getElem]
  intro i j hi hj hij
  exact h j i _ _ hj hij (List.getElem?_eq_getElem hj) (List.getElem?_eq_getElem hi)
theorem pairs_no {S : VerV} {E : EditV} {M : List PlaceV} (hM : M = flat (nextV S E)) {i k : Nat} {a b : PlaceV} (hk : k < i) (ha : M[i]? = some a) (hb : M[k]? = some b) (hc : clash a b) : ¬ okV S E := fun ho => by
  have := (flat_pairs _).2 ho.2.2.2
  rw [← flat_eq, ← hM, List.pairwise_iff_getElem] at this
  obtain ⟨h1, rfl⟩ := List.getElem?_eq_some_iff.1 ha
  obtain ⟨h2, rfl⟩ := List.getElem?_eq_some_iff.1 hb
  exact this k i h2 h1 hk hc

end Go.Proofs.YtahahginmgidjaaGreatDoor
