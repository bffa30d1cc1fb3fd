/-
  A field's number: the program's number.
-/
import Derived.Test.YtjloddlkleileaaGreatDoorLay
import Derived.Test.YtjloddlkleileaaGreatDoorBase
import Derived.Test.YtjloddlkleileaaGreatDoorProg
import Derived.Test.YtjloddlkleileaaGreatDoorFeeP
import Derived.Lib.AppendIntMem
import Derived.Deep.QuietTactic
import Derived.BigQuiet
import Derived.Laws.Strings
namespace Go.Proofs.YtjloddlkleileaaGreatDoor
open Go.RowKit Go.Shelf
set_option linter.unusedVariables false
set_option linter.unusedSimpArgs false

/-- The library's table of powers of ten is as its text lays it. -/
def Tab (w : World) : Prop := Lib.TabIs Tryz.prog w "internal/strconv.uint64pow10" .u64 Lib.pow10Tab
theorem Tab.chg {w w' : World} (h : Tab w) (hc : Chg (fun _ => False) w w') : Tab w' := (Lib.tabBelow_of_tabIs h) w' hc.below
theorem ren_fmtM : Tryz.fmtIntM_ren.f 173 = 77 := by kernel_rfl
theorem fmt_itoa (n : Int) (h0 : -9223372036854775808 ≤ n) (h1 : n ≤ 9223372036854775807) (w : World) (ht : Tab w) : Calls Tryz.prog 77 #[.int .i64 n, .int .i64 10] w fun e w' => e = .returned (.string ⟨(Lib.itoa n).toArray⟩) ∧ Chg (fun _ => False) w w' := by
  have h := Any.strconv_FormatInt_10 Tryz.fmtIntM n h0 h1 w ht
  rw [ren_fmtM] at h
  refine h.mono fun e w' ⟨he, k, os, hw⟩ => ⟨he, ?_⟩
  subst hw
  exact Chg.of_below ⟨rfl, rfl, rfl, by show w.heap.size ≤ (w.heap ++ os).size; rw [Array.size_append]; omega, fun j hj => Lib.heap_grow_old w k os j (by omega)⟩
theorem cell_lt {w : World} {a : Addr} {v : Value} (h : w.cell? a = some v) : a.block < w.heap.size := by
  rcases Nat.lt_or_ge a.block w.heap.size with h1 | h1
  · exact h1
  · unfold World.cell? at h
    rw [Array.getElem?_eq_none h1] at h
    simp at h
/-- The library's two errors hold what an interface may. -/
def ErrOk (w : World) : Prop := ∃ t1 p1 t2 p2, w.cell? ⟨2, 0, none⟩ = some (.iface t1 p1) ∧ w.cell? ⟨3, 0, none⟩ = some (.iface t2 p2)
theorem ErrOk.chg {w w' : World} (h : ErrOk w) (hc : Chg (fun _ => False) w w') : ErrOk w' := by
  obtain ⟨t1, p1, t2, p2, h1, h2⟩ := h
  exact ⟨t1, p1, t2, p2, (hc.cell (cell_lt h1) (by simp)).trans h1, (hc.cell (cell_lt h2) (by simp)).trans h2⟩
theorem ren_parse : Tryz.parseInt_ren.f 174 = 120 := by kernel_rfl
theorem ren_ps : Tryz.parseInt_ren.g 15 = 2 := by kernel_rfl
theorem ren_pr : Tryz.parseInt_ren.g 16 = 3 := by kernel_rfl
def ParsePost (w : World) (s : ByteArray) (e : Ending) (w' : World) : Prop :=
  ((∃ v, Lib.parseIntB 64 s.data.toList = .ok v ∧ e = .returned (.tuple #[.int .i64 v, .nilIface])) ∨ ((∀ v, Lib.parseIntB 64 s.data.toList ≠ .ok v) ∧ ∃ x t p, e = .returned (.tuple #[.int .i64 x, .iface t p]))) ∧ Chg (fun _ => False) w w'
theorem parse_int (s : ByteArray) (hs : s.size ≤ 4294967280) (w : World) (he : ErrOk w) : Calls Tryz.prog 120 #[.string s, .int .i64 10, .int .i64 64] w (ParsePost w s) := by
  obtain ⟨t1, p1, t2, p2, h1, h2⟩ := he
  rw [← ren_ps] at h1
  rw [← ren_pr] at h2
  rw [← ren_parse]
  cases h : Lib.parseIntB 64 s.data.toList
  case ok v =>
    refine (Any.strconv_ParseInt_10_at64_ok Tryz.parseInt s (by omega) v h w).mono fun e w' ⟨he, hw⟩ => ⟨.inl ⟨v, h, he⟩, ?_⟩
    rcases hw with rfl | ⟨t, rfl⟩
    · exact Chg.refl _ _
    · exact Chg.of_below (Lib.bytesWorld_below _ _ _)
  all_goals
    first
    | refine (Any.strconv_ParseInt_10_at64_syntax Tryz.parseInt s (by omega) h _ w h1 (.inr ⟨t1, p1, rfl⟩)).mono fun e w' ⟨N, he, _, _, hb⟩ => ⟨.inr ⟨fun v hv => ?_, _, _, _, he⟩, Chg.of_below hb⟩
    | refine (Any.strconv_ParseInt_10_at64_range Tryz.parseInt s (by omega) h _ w h2 (.inr ⟨t2, p2, rfl⟩)).mono fun e w' ⟨N, he, _, _, hb⟩ => ⟨.inr ⟨fun v hv => ?_, _, _, _, he⟩, Chg.of_below hb⟩
    rw [h] at hv
    cases hv
theorem ba_eq {a b : ByteArray} (h : a.data.toList = b.data.toList) : a = b := ByteArray.ext (Array.ext' h)
theorem ba_test (a b : ByteArray) : (a.toList == b.toList) = decide (a = b) := by
  rw [ByteArray.toList_eq, ByteArray.toList_eq]
  by_cases h : a = b
  · subst h; simp
  · have : a.data.toList ≠ b.data.toList := fun e => h (ba_eq e)
    rw [beq_eq_false_iff_ne.2 this]
    simp [h]
def NumAt (f : ByteArray) (e : Ending) : Prop := ∃ n b, e = .returned (.tuple #[.int .i64 n, .bool b]) ∧ match numV f.data.toList with | some v => n = v ∧ b = true | none => b = false
set_option maxRecDepth 100000 in
set_option maxHeartbeats 2000000 in
theorem fd_number (f : ByteArray) (hf : f.size ≤ 4294967280) (w : World) (ht : Tab w) (he : ErrOk w) : Calls Tryz.prog 75 #[.string f] w fun e w' => NumAt f e ∧ Chg (fun _ => False) w w' := by
  have hp := parse_int f hf w he
  have HP := Lib.hid hp
  have HT := Lib.hid ht
  clear hp ht he
  go_enter Tryz.func75, Tryz.ntmps75
  go_wp2_with fail
  refine HP.out.mono ?_
  rintro e w1 ⟨⟨v, hv, rfl⟩ | ⟨hno, y, t, p, rfl⟩, hc1⟩
  · have hbd := Lib.parseIntB_bounds hv
    have hb1 : -9223372036854775808 ≤ v := by simp at hbd; omega
    have hb2 : v ≤ 9223372036854775807 := by simp at hbd; omega
    have hfm := fmt_itoa v hb1 hb2 w1 (HT.out.chg hc1)
    obtain ⟨s, hs⟩ : ∃ s : ByteArray, (⟨(Lib.itoa v).toArray⟩ : ByteArray) = s := ⟨_, rfl⟩
    have hsl : s.data.toList = Lib.itoa v := by rw [← hs]
    rw [hs] at hfm
    have htest := ba_test s f
    have HV := Lib.hid hv
    have HFM := Lib.hid hfm
    have HC1 := Lib.hid hc1
    have HSL := Lib.hid hsl
    clear hbd hv hfm hc1 hs hsl
    by_cases hr : -9007199254740992 ≤ v ∧ v ≤ 9007199254740992
    · have hd1 : decide (v ≥ -9007199254740992) = true := by simp; omega
      have hd2 : decide (v ≤ 9007199254740992) = true := by simp; omega
      have HR := Lib.hid hr
      clear hr
      by_cases hsf : s = f
      · rw [decide_eq_true hsf] at htest
        have HSF := Lib.hid hsf
        clear hsf
        go_wp2_with fail
        refine HFM.out.mono ?_
        rintro e w2 ⟨rfl, hc2⟩
        have HC2 := Lib.hid (HC1.out.then hc2)
        clear hc2
        go_wp2_with fail
        go_ret2
        refine ⟨⟨v, true, rfl, ?_⟩, HC2.out⟩
        rw [numV_some.2 ⟨HR.out.1, HR.out.2, by rw [← HSF.out]; exact HSL.out⟩]
        exact ⟨rfl, rfl⟩
      · rw [decide_eq_false hsf] at htest
        have HSF := Lib.hid hsf
        clear hsf
        go_wp2_with fail
        refine HFM.out.mono ?_
        rintro e w2 ⟨rfl, hc2⟩
        have HC2 := Lib.hid (HC1.out.then hc2)
        clear hc2
        go_wp2_with fail
        go_ret2
        refine ⟨⟨v, false, rfl, ?_⟩, HC2.out⟩
        have hn : numV f.data.toList = none := by
          unfold numV
          rw [HV.out]
          simp only
          rw [if_neg (fun h => HSF.out (ba_eq (HSL.out.trans h.2.2)))]
        rw [hn]
    · have hn : numV f.data.toList = none := by
        unfold numV
        rw [HV.out]
        simp only
        rw [if_neg (fun h => hr ⟨h.1, h.2.1⟩)]
      have HN := Lib.hid hn
      clear hn HFM
      by_cases hl : -9007199254740992 ≤ v
      · have hd1 : decide (v ≥ -9007199254740992) = true := by simp; omega
        have hd2 : decide (v ≤ 9007199254740992) = false := by simp; omega
        clear hr
        go_wp2_with fail
        go_ret2
        exact ⟨⟨v, false, rfl, by rw [HN.out]⟩, HC1.out⟩
      · have hd1 : decide (v ≥ -9007199254740992) = false := by simp; omega
        clear hr
        go_wp2_with fail
        go_ret2
        exact ⟨⟨v, false, rfl, by rw [HN.out]⟩, HC1.out⟩
  · have HNO := Lib.hid hno
    have HC1 := Lib.hid hc1
    clear hno hc1
    go_wp2_with fail
    go_ret2
    refine ⟨⟨y, false, rfl, ?_⟩, HC1.out⟩
    have hn : numV f.data.toList = none := by
      unfold numV
      split
      · rename_i v hv
        exact absurd hv (HNO.out v)
      · rfl
    rw [hn]
end Go.Proofs.YtjloddlkleileaaGreatDoor
