/-
  The law's wakes, layer 14: a version that the document fixes.
-/
import Derived.Test.YtahahginmgidjaaVerKa
import Derived.Outline
import Derived.Deep.DeepCutAuto
namespace Go.Proofs.Ytahahginmgidjaa
open Go.RowKit
set_option linter.unusedVariables false
set_option linter.unusedSimpArgs false

def wm3 : MetaV := ⟨3, 9, ⟨#[97]⟩, ⟨#[99]⟩⟩
def wm4 : MetaV := ⟨4, 9, ⟨#[98]⟩, ⟨#[98]⟩⟩
def wk1 (l : Int) : EditV := ⟨[⟨l, wm3⟩, ⟨l, wm4⟩], [], 0, 5, 0⟩
theorem wk_sl1 : sl ⟨#[98]⟩ ⟨#[97]⟩ = false := by simp [sl, ByteArray.toList_eq]; decide
theorem wk_sl2 : sl ⟨#[99]⟩ ⟨#[98]⟩ = false := by simp [sl, ByteArray.toList_eq]; decide
theorem wk_sl3 : sl ⟨#[99]⟩ ⟨#[97]⟩ = false := by simp [sl, ByteArray.toList_eq]; decide
theorem wk_sl4 : sl ⟨#[98]⟩ ⟨#[98]⟩ = false := sl_irrefl _
theorem wk1_lv0 : (nextV VerV.none (wk1 0)).lv 0 = [wm4, wm3] := by
  simp [nextV, wk1, addTo, kept, VerV.none, insG, before, wm3, wm4]
theorem wk1_lv {i : Nat} (hi : i ≠ 0) : (nextV VerV.none (wk1 0)).lv i = [] := by
  have : ¬ (0 : Int) = (i : Int) := by omega
  simp [nextV, wk1, addTo, kept, VerV.none, this]
theorem wk1_ok : okV VerV.none (wk1 0) := by
  refine ⟨⟨by simp [VerV.none, wk1], by simp [wk1]⟩, ⟨by simp [wk1], by simp [wk1]⟩, ⟨fun p hp => ?_, by simp [wk1, wm3, wm4]⟩, fun i h1 h4 => by rw [wk1_lv (by omega)]; exact List.Pairwise.nil⟩
  rw [wk_flat]
  simp [wk1] at hp
  rcases hp with rfl | rfl
  · exact ⟨⟨by simp, by simp, by simp [wm3], by simp [wm3, wk1], by simp [wm3], wk_sl3⟩, by simp⟩
  · exact ⟨⟨by simp, by simp, by simp [wm4], by simp [wm4, wk1], by simp [wm4], wk_sl4⟩, by simp⟩
theorem wk2_no : ¬ okV VerV.none (wk1 1) := fun h => by
  have := h.2.2.2 1 (by omega) (by omega)
  have e : (nextV VerV.none (wk1 1)).lv 1 = [wm3, wm4] := by
    simp [nextV, wk1, addTo, kept, VerV.none, insG, before, wm3, wm4, wk_sl1]
  rw [e] at this
  simp [Apart, wm3, wm4, wk_sl1, wk_sl2] at this
theorem wk_files : (filesOf (flatF (nextV VerV.none (wk1 0)).lv)).mergeSort (fun x y => decide (x ≤ y)) = [3, 4] := by
  have : filesOf (flatF (nextV VerV.none (wk1 0)).lv) = [4, 3] := by
    simp [filesOf, flatF, atLevel, wk1_lv0, wk1_lv, wm3, wm4]
  rw [this]
  simp [List.mergeSort, List.MergeSort.Internal.splitInTwo, List.merge]
/-- The first edit, its places known as a block. -/
theorem wk_apply1 (w : World) (g : Nat) (hb : Blk w g 48 #[.int .i64 0, .int .i64 3, .int .i64 9, .string ⟨#[97]⟩, .string ⟨#[99]⟩, .int .i64 0, .int .i64 4, .int .i64 9, .string ⟨#[98]⟩, .string ⟨#[98]⟩]) :
    Calls Try.prog 18 #[.agg #[.slice none 0 0, .slice none 0 0, .slice none 0 0, .slice none 0 0, .int .i64 0, .int .i64 0, .int .i64 0], .agg #[.slice (some ⟨g, 0, none⟩) 2 2, .slice none 0 0, .int .i64 0, .int .i64 5, .int .i64 0]] w
      fun e w' => ∃ b0 c0 a1 c1 a2 c2 a3 c3, e = .returned (.tuple #[.agg #[.slice (some ⟨b0, 0, none⟩) 2 c0, .slice a1 0 c1, .slice a2 0 c2, .slice a3 0 c3, .int .i64 0, .int .i64 5, .int .i64 0], .int .i64 0]) ∧ VerAt w' (Lv (.slice (some ⟨b0, 0, none⟩) 2 c0) (.slice a1 0 c1) (.slice a2 0 c2) (.slice a3 0 c3)) (nextV VerV.none (wk1 0)).lv ∧
        w'.cell? ⟨b0, 0, none⟩ = some (.int .i64 4) ∧ b0 < w'.heap.size ∧ Chg (fun _ => False) w w' := by
  refine (ver_apply VerV.none (wk1 0) (fun _ => .slice none 0 0) (.slice (some ⟨g, 0, none⟩) 2 2) (.slice none 0 0) w Good.none ⟨by simp [wk1], by simp [wk1, wm3, wm4, I64]⟩ (by simp [I64, VerV.none]) (own_nil4 w) (Lst.of_block placeOk hb rfl (by simp [wk1])) (Lst.nil _ _) (by simp [VerV.none]) (by simp [wk1]) (by simp [wk1])).mono ?_
  rintro e w' ⟨hc, ⟨_, L, rfl, hv, _⟩ | ⟨hno, _⟩⟩
  · have h0 := hv 0 (by omega)
    have h1 := hv 1 (by omega)
    have h2 := hv 2 (by omega)
    have h3 := hv 3 (by omega)
    rw [wk1_lv0] at h0
    rw [wk1_lv (by omega)] at h1 h2 h3
    obtain ⟨a0, c0, e0, _, _, hr⟩ := meta_form h0
    obtain ⟨a1, c1, e1, _, _, _⟩ := meta_form h1
    obtain ⟨a2, c2, e2, _, _, _⟩ := meta_form h2
    obtain ⟨a3, c3, e3, _, _, _⟩ := meta_form h3
    obtain ⟨b0, rfl, hlt, _, z, _⟩ := hr [] wm4 [wm3] rfl
    have hv' := Lv_all L hv
    rw [e0, e1, e2, e3] at hv'
    refine ⟨b0, c0, a1, c1, a2, c2, a3, c3, ?_, hv', by simpa [wm4] using z, hlt, hc⟩
    rw [e0, e1, e2, e3]
    rfl
  · exact absurd wk1_ok hno
theorem wk_apply2 (w : World) (g : Nat) (hb : Blk w g 48 #[.int .i64 1, .int .i64 3, .int .i64 9, .string ⟨#[97]⟩, .string ⟨#[99]⟩, .int .i64 1, .int .i64 4, .int .i64 9, .string ⟨#[98]⟩, .string ⟨#[98]⟩]) :
    Calls Try.prog 18 #[.agg #[.slice none 0 0, .slice none 0 0, .slice none 0 0, .slice none 0 0, .int .i64 0, .int .i64 0, .int .i64 0], .agg #[.slice (some ⟨g, 0, none⟩) 2 2, .slice none 0 0, .int .i64 0, .int .i64 5, .int .i64 0]] w
      fun e w' => e = .returned (.tuple #[.agg #[.slice none 0 0, .slice none 0 0, .slice none 0 0, .slice none 0 0, .int .i64 0, .int .i64 0, .int .i64 0], .int .i64 17]) ∧ Chg (fun _ => False) w w' := by
  refine (ver_apply VerV.none (wk1 1) (fun _ => .slice none 0 0) (.slice (some ⟨g, 0, none⟩) 2 2) (.slice none 0 0) w Good.none ⟨by simp [wk1], by simp [wk1, wm3, wm4, I64]⟩ (by simp [I64, VerV.none]) (own_nil4 w) (Lst.of_block placeOk hb rfl (by simp [wk1])) (Lst.nil _ _) (by simp [VerV.none]) (by simp [wk1]) (by simp [wk1])).mono ?_
  rintro e w' ⟨hc, ⟨hok, _⟩ | ⟨_, rfl⟩⟩
  · exact absurd hok wk2_no
  · exact ⟨rfl, hc⟩
theorem wk_files1 (w : World) (l0 l1 l2 l3 : Value) (h : VerAt w (Lv l0 l1 l2 l3) (nextV VerV.none (wk1 0)).lv) :
    Calls Try.prog 19 #[.agg #[l0, l1, l2, l3, .int .i64 0, .int .i64 5, .int .i64 0]] w fun e w' => ∃ b c, e = .returned (.slice (some ⟨b, 0, none⟩) 2 c) ∧ w'.cell? ⟨b, 0, none⟩ = some (.int .i64 3) ∧ Chg (fun _ => False) w w' := by
  refine (ver_files (Lv l0 l1 l2 l3) (nextV VerV.none (wk1 0)).lv 0 5 0 w h (fun i hi => ?_)).mono ?_
  · by_cases h0 : i = 0
    · subst h0; rw [wk1_lv0]; simp
    · rw [wk1_lv h0]; simp
  · rintro e w' ⟨v, rfl, hO, _, hc⟩
    rw [wk_files] at hO
    obtain ⟨a, c, rfl, _, _, hr⟩ := i64_form hO
    obtain ⟨b, rfl, _, _, z⟩ := hr [] 3 [4] rfl
    exact ⟨b, c, rfl, by simpa using z, hc⟩

set_option maxRecDepth 1000000 in
set_option maxHeartbeats 4000000 in
theorem law_wakes (w : World) : Calls Try.prog 7 #[] w fun e w' => e = .returned (.bool true) ∧ Chg (fun _ => False) w w' := by
  obtain ⟨w1, hw1⟩ : ∃ w1, w1 = (w.alloc (.cells #[.int .i64 0, .int .i64 3, .int .i64 9, .string ⟨#[97]⟩, .string ⟨#[99]⟩, .int .i64 0, .int .i64 4, .int .i64 9, .string ⟨#[98]⟩, .string ⟨#[98]⟩] 48)).alloc (.cells #[.slice (some ⟨w.heap.size, 0, none⟩) 2 2, .slice none 0 0, .int .i64 0, .int .i64 5, .int .i64 0] 28) := ⟨_, rfl⟩
  have hc1 : Chg (fun _ => False) w w1 := by rw [hw1]; ((repeat (first | exact Chg.refl _ _ | assumption | refine Chg.drewN ?_ _ | refine Chg.drew ?_ | refine Chg.alloc ?_ _ | refine Chg.setCell ?_ (by first | (simp; done) | (simp; omega) | (intro h; simp at h; omega)) _)))
  have bp : Blk w1 w.heap.size 48 #[.int .i64 0, .int .i64 3, .int .i64 9, .string ⟨#[97]⟩, .string ⟨#[99]⟩, .int .i64 0, .int .i64 4, .int .i64 9, .string ⟨#[98]⟩, .string ⟨#[98]⟩] := by rw [hw1]; exact (Blk.new w _ _).alloc _
  have be : Blk w1 (w.heap.size + 1) 28 #[.slice (some ⟨w.heap.size, 0, none⟩) 2 2, .slice none 0 0, .int .i64 0, .int .i64 5, .int .i64 0] := by rw [hw1]; exact Blk.new1 w _ _ _
  have h1 := wk_apply1 w1 _ bp
  have HW1 := Lib.hid hw1
  have HC1 := Lib.hid hc1
  have HBP := Lib.hid bp
  have HBE := Lib.hid be
  have H1 := Lib.hid h1
  clear hw1 hc1 bp be h1
  go_enter Try.func7, Try.ntmps7
  go_wp2_with fail
  rw [← HW1.out]
  refine H1.out.mono ?_
  rintro e w2 ⟨b0, c0, a1, c1, a2, c2, a3, c3, rfl, hv, hz, hb0, hc2⟩
  have HV := Lib.hid hv
  have hc12 := HC1.out.then hc2
  have bp := HBP.out.chg hc2 (by simp)
  have be := HBE.out.chg hc2 (by simp)
  obtain ⟨w3, hw3⟩ : ∃ w3, w3 = w2.alloc (.cells #[.slice (some ⟨b0, 0, none⟩) 2 c0, .slice a1 0 c1, .slice a2 0 c2, .slice a3 0 c3, .int .i64 0, .int .i64 5, .int .i64 0] 68) := ⟨_, rfl⟩
  have bv : Blk w3 w2.heap.size 68 #[.slice (some ⟨b0, 0, none⟩) 2 c0, .slice a1 0 c1, .slice a2 0 c2, .slice a3 0 c3, .int .i64 0, .int .i64 5, .int .i64 0] := by rw [hw3]; exact Blk.new w2 _ _
  have hc23 : Chg (fun _ => False) w2 w3 := by rw [hw3]; ((repeat (first | exact Chg.refl _ _ | assumption | refine Chg.drewN ?_ _ | refine Chg.drew ?_ | refine Chg.alloc ?_ _ | refine Chg.setCell ?_ (by first | (simp; done) | (simp; omega) | (intro h; simp at h; omega)) _)))
  have hv3 := hv.same hc23
  have bp := bp.alloc (.cells #[.slice (some ⟨b0, 0, none⟩) 2 c0, .slice a1 0 c1, .slice a2 0 c2, .slice a3 0 c3, .int .i64 0, .int .i64 5, .int .i64 0] 68)
  have be := be.alloc (.cells #[.slice (some ⟨b0, 0, none⟩) 2 c0, .slice a1 0 c1, .slice a2 0 c2, .slice a3 0 c3, .int .i64 0, .int .i64 5, .int .i64 0] 68)
  have hz3 := kc_alloc (.cells #[.slice (some ⟨b0, 0, none⟩) 2 c0, .slice a1 0 c1, .slice a2 0 c2, .slice a3 0 c3, .int .i64 0, .int .i64 5, .int .i64 0] 68) hz
  rw [← hw3] at bp be hz3
  have HW3 := Lib.hid hw3
  have HC3 := Lib.hid (hc12.then hc23)
  have hlt3 := bp.lt
  have hlt3' := be.lt
  have hlt3'' := bv.lt
  have e0 := be.cell 0
  have p0 := bp.cell 0
  have p5 := bp.cell 5
  have fp0 := bp.frozen 0
  have fp5 := bp.frozen 5
  simp at e0 p0 p5
  have HBP3 := Lib.hid bp
  have HBE3 := Lib.hid be
  have HBV3 := Lib.hid bv
  have HV3 := Lib.hid hv3
  have hsz2 := hc2.size
  have hb0p : b0 ≠ w.heap.size := fun e => by
    obtain ⟨cs, hb⟩ := (hv 0 (by omega)).typed (k := b0) rfl
    subst e
    have := (HBP.out.chg hc2 (by simp))
    exact hb.ne_ this (by decide) rfl
  clear bp be bv hv hv3 hw3 hc12 hc23 hc2 HV H1
  go_upto_region 3 with fail
  rw [← HW3.out]
  go_cut [19] (fun _ wx => Blk wx w.heap.size 48 #[.int .i64 1, .int .i64 3, .int .i64 9, .string ⟨#[97]⟩, .string ⟨#[99]⟩, .int .i64 1, .int .i64 4, .int .i64 9, .string ⟨#[98]⟩, .string ⟨#[98]⟩] ∧ Chg (fun k => k = w.heap.size) w3 wx)
  case first =>
    go_region_held3 (fun w' => w'.cell? ⟨w.heap.size + 1, 0, none⟩ = some (.slice (some ⟨w.heap.size, 0, none⟩) 2 2)) (go_keep) (fail)
    all_goals
      go_wp2_with fail
      go_meet
      refine ⟨?_, by ((repeat (first | with_reducible exact Chg.refl _ _ | with_reducible assumption | with_reducible refine Chg.drewN ?_ _ | with_reducible refine Chg.drew ?_ | with_reducible refine Chg.alloc ?_ _ | with_reducible refine Chg.setCell ?_ (by first | (simp; done) | (simp; omega) | (intro h; simp at h; omega)) _)))⟩
      have := (HBP3.out.set_ 0 (.int .i64 1)).set_ 5 (.int .i64 1)
      simpa using this.drew
  case rest =>
    obtain ⟨hbp, hc4⟩ := hcut
    obtain ⟨w4, rfl⟩ : ∃ w4 : World, w4 = wc := ⟨_, rfl⟩
    have hltp := HBP.out.lt
    have be := HBE3.out.chg hc4 (by omega)
    have bv := HBV3.out.chg hc4 (by omega)
    have t1 : ∀ {v : Value} {l : List MetaV}, Lst metaC w3 v l → ∀ k, v.ownBlock = some k → ¬ k = w.heap.size := fun h k hk e => by
      subst e
      obtain ⟨cs, hb⟩ := h.typed hk
      exact hb.ne_ HBP3.out (by decide) rfl
    have hv4 : VerAt w4 (Lv (.slice (some ⟨b0, 0, none⟩) 2 c0) (.slice a1 0 c1) (.slice a2 0 c2) (.slice a3 0 c3)) (nextV VerV.none (wk1 0)).lv := fun i hi => (HV3.out i hi).chg hc4 (t1 (HV3.out i hi))
    have hz4 := (hc4.cell (p := ⟨b0, 0, none⟩) (World.block_lt_of_cell? w3 ⟨b0, 0, none⟩ hz3) hb0p).trans hz3
    have hcc : Chg (fun _ => False) w w4 := HC3.out.trans hc4 fun k hk e => absurd hk (by have e : k = w.heap.size := e; omega)
    have h2 := wk_apply2 w4 _ hbp
    have e0 := be.cell 0
    have e1 := be.cell 1
    have e2 := be.cell 2
    have e3 := be.cell 3
    have e4 := be.cell 4
    simp at e0 e1 e2 e3 e4
    have H2 := Lib.hid h2
    have HV4 := Lib.hid hv4
    have HBV4 := Lib.hid bv
    have HCC := Lib.hid hcc
    clear h2 hv4 bv hbp be hc4 t1 hcc hz3 p0 p5 fp0 fp5
    go_wp2_with fail
    refine H2.out.mono ?_
    rintro e w5 ⟨rfl, hc5⟩
    obtain ⟨w6, hw6⟩ : ∃ w6, w6 = w5.alloc (.cells #[.slice none 0 0, .slice none 0 0, .slice none 0 0, .slice none 0 0, .int .i64 0, .int .i64 0, .int .i64 0] 68) := ⟨_, rfl⟩
    have hc56 : Chg (fun _ => False) w4 w6 := hc5.then (by rw [hw6]; ((repeat (first | exact Chg.refl _ _ | assumption | refine Chg.drewN ?_ _ | refine Chg.drew ?_ | refine Chg.alloc ?_ _ | refine Chg.setCell ?_ (by first | (simp; done) | (simp; omega) | (intro h; simp at h; omega)) _))))
    have bv := HBV4.out.chg hc56 (by simp)
    have hv6 := HV4.out.same hc56
    have hz6 := (hc56.cell (p := ⟨b0, 0, none⟩) (World.block_lt_of_cell? w4 ⟨b0, 0, none⟩ hz4) (by simp)).trans hz4
    have v0 := bv.cell 0
    have v1 := bv.cell 1
    have v2 := bv.cell 2
    have v3 := bv.cell 3
    have v4 := bv.cell 4
    have v5 := bv.cell 5
    have v6 := bv.cell 6
    simp at v0 v1 v2 v3 v4 v5 v6
    have h3 := wk_files1 w6 _ _ _ _ hv6
    have H3 := Lib.hid h3
    have HW6 := Lib.hid hw6
    have HBV6 := Lib.hid bv
    have HCC6 := Lib.hid (HCC.out.then hc56)
    clear h3 hw6 bv hv6 hc56 hc5 e0 e1 e2 e3 e4
    go_upto_region 5 with fail
    rw [← HW6.out]
    go_wp2_with fail
    refine H3.out.mono ?_
    rintro e w7 ⟨b, c, rfl, hf, hc7⟩
    have z7 := (hc7.cell (p := ⟨b0, 0, none⟩) (World.block_lt_of_cell? w6 ⟨b0, 0, none⟩ hz6) (by simp)).trans hz6
    have v0 := (HBV6.out.chg hc7 (by simp)).cell 0
    simp at v0
    have HF := Lib.hid (HCC6.out.then hc7)
    clear hc7 hz6 hz4 v1 v2 v3 v4 v5 v6
    go_wp2_with fail
    go_ret
    exact ⟨rfl, HF.out⟩
end Go.Proofs.Ytahahginmgidjaa
