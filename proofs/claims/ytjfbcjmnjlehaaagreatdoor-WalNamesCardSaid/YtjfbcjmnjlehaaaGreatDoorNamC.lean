/-
  Names of files: both Numbers; the walk of WalNames.
-/
import Derived.Test.YtjfbcjmnjlehaaaGreatDoorNamB
import Derived.Lib.ParseIntBTie
namespace Go.Proofs.YtjfbcjmnjlehaaaGreatDoor
open Go.RowKit Go.Shelf
set_option linter.unusedVariables false
set_option linter.unusedSimpArgs false

/-- The library's two errors hold what an interface may. -/
def ErrOk (w : World) : Prop := ∃ t1 p1 t2 p2, w.cell? ⟨0, 0, none⟩ = some (.iface t1 p1) ∧ w.cell? ⟨1, 0, none⟩ = some (.iface t2 p2)
theorem ErrOk.chg {w w' : World} (h : ErrOk w) (hc : Chg (fun _ => False) w w') : ErrOk w' := by
  obtain ⟨t1, p1, t2, p2, h1, h2⟩ := h
  exact ⟨t1, p1, t2, p2, (hc.cell (cell_lt h1) (by simp)).trans h1, (hc.cell (cell_lt h2) (by simp)).trans h2⟩
theorem ren_parse : Tryz.parseInt_ren.f 174 = 24 := by kernel_rfl
theorem ren_ps : Tryz.parseInt_ren.g 15 = 0 := by kernel_rfl
theorem ren_pr : Tryz.parseInt_ren.g 16 = 1 := by kernel_rfl
theorem ren_cut : Tryz.cutPre_ren.f 103 = 23 := by kernel_rfl
def ParsePost (w : World) (s : ByteArray) (e : Ending) (w' : World) : Prop :=
  ((∃ v, Lib.parseIntB 64 s.data.toList = .ok v ∧ e = .returned (.tuple #[.int .i64 v, .nilIface])) ∨ ((∀ v, Lib.parseIntB 64 s.data.toList ≠ .ok v) ∧ ∃ x t p, e = .returned (.tuple #[.int .i64 x, .iface t p]))) ∧ Chg (fun _ => False) w w'
theorem parse_int (s : ByteArray) (hs : s.size ≤ 1000) (w : World) (he : ErrOk w) : Calls Tryz.prog 24 #[.string s, .int .i64 10, .int .i64 64] w (ParsePost w s) := by
  obtain ⟨t1, p1, t2, p2, h1, h2⟩ := he
  rw [← ren_ps] at h1
  rw [← ren_pr] at h2
  rw [← ren_parse]
  cases h : Lib.parseIntB 64 s.data.toList
  case ok v =>
    refine (Any.strconv_ParseInt_10_at64_ok Tryz.parseInt s (by omega) v h w).mono fun e w' ⟨he, hw⟩ => ⟨.inl ⟨v, h, he⟩, ?_⟩
    rcases hw with rfl | ⟨t, rfl⟩
    · exact Chg.refl _ _
    · exact Chg.of_below (Lib.bytesWorld_below _ _ _)
  all_goals
    first
    | refine (Any.strconv_ParseInt_10_at64_syntax Tryz.parseInt s (by omega) h _ w h1 (.inr ⟨t1, p1, rfl⟩)).mono fun e w' ⟨N, he, _, _, hb⟩ => ⟨.inr ⟨fun v hv => ?_, _, _, _, he⟩, Chg.of_below hb⟩
    | refine (Any.strconv_ParseInt_10_at64_range Tryz.parseInt s (by omega) h _ w h2 (.inr ⟨t2, p2, rfl⟩)).mono fun e w' ⟨N, he, _, _, hb⟩ => ⟨.inr ⟨fun v hv => ?_, _, _, _, he⟩, Chg.of_below hb⟩
    rw [h] at hv
    cases hv
theorem cut_prefix (s p : ByteArray) (w : World) : Calls Tryz.prog 23 #[.string s, .string p] w fun e w' => e = .returned (.tuple #[.string ⟨(Lib.trimPrefix s.data.toList p.data.toList).toArray⟩, .bool (Lib.hasPrefix s.data.toList p.data.toList)]) ∧ w' = w := by
  have h := Any.strings_CutPrefix Tryz.cutPre s p w
  rw [ren_cut] at h
  exact h
theorem ba_eq {a b : ByteArray} (h : a.data.toList = b.data.toList) : a = b := ByteArray.ext (Array.ext' h)
theorem ba_test (a b : ByteArray) : (a.toList == b.toList) = decide (a = b) := by
  rw [ByteArray.toList_eq, ByteArray.toList_eq]
  by_cases h : a = b
  · subst h; simp
  · have : a.data.toList ≠ b.data.toList := fun e => h (ba_eq e)
    rw [beq_eq_false_iff_ne.2 this]
    simp [h]
def NumPost (w : World) (k s : ByteArray) (e : Ending) (w' : World) : Prop :=
  e = .returned (.tuple #[.int .i64 (numL k.data.toList s.data.toList).1, .bool (numL k.data.toList s.data.toList).2]) ∧ Chg (fun _ => False) w w'
set_option maxRecDepth 100000 in
set_option maxHeartbeats 2000000 in
theorem wal_number (k s : ByteArray) (hk : k.size ≤ 140737488351232) (hs : s.size ≤ 140737488351232) (w : World) (ht : Tab w) (he : ErrOk w) :
    Calls Tryz.prog 5 #[.string k, .string s] w (NumPost w k s) := by
  have hcut := fun w => cut_prefix s (k ++ ⟨#[45]⟩) w
  have hnum := num_prog k.data.toList s.data.toList
  have hpl : (k ++ ⟨#[45]⟩ : ByteArray).data.toList = k.data.toList ++ [45] := by simp
  rw [hpl] at hcut
  have hrl : (⟨(Lib.trimPrefix s.data.toList (k.data.toList ++ [45])).toArray⟩ : ByteArray).data.toList = Lib.trimPrefix s.data.toList (k.data.toList ++ [45]) := rfl
  obtain ⟨r, hr⟩ : ∃ r, (⟨(Lib.trimPrefix s.data.toList (k.data.toList ++ [45])).toArray⟩ : ByteArray) = r := ⟨_, rfl⟩
  obtain ⟨hp, hhp⟩ : ∃ hp, Lib.hasPrefix s.data.toList (k.data.toList ++ [45]) = hp := ⟨_, rfl⟩
  rw [hr] at hcut hrl
  rw [← hrl, hhp] at hnum
  rw [hhp] at hcut
  have hrz : r.data.toList.length = r.size := by rw [Array.length_toList]; rfl
  rw [hrz] at hnum
  have hfile := fun v h0 h1 w ht => wal_file k v hk h0 h1 w ht
  have HCUT := Lib.hid hcut
  have HNUM := Lib.hid hnum
  have HF := Lib.hid hfile
  have HT := Lib.hid ht
  have HE := Lib.hid he
  clear hcut hnum hpl hrl hr hhp hrz hfile ht he
  have main : ∀ x b, numL k.data.toList s.data.toList = (x, b) → Calls Tryz.prog 5 #[.string k, .string s] w fun e w' => e = .returned (.tuple #[.int .i64 x, .bool b]) ∧ Chg (fun _ => False) w w' := by
    intro x b hxb
    have hn := HNUM.out
    rw [hxb] at hn
    clear hxb HNUM
    cases hp with
    | false =>
      rw [if_neg (by simp)] at hn
      injection hn with hx hb
      subst hx hb
      go_enter Tryz.func5, Tryz.ntmps5
      go_wp2_with fail
      refine (HCUT.out _).mono ?_
      rintro e w1 ⟨rfl, rfl⟩
      go_wp2_with fail
      go_ret2
      exact ⟨rfl, Chg.refl _ _⟩
    | true =>
      by_cases hz : r.size = 8
      · rw [if_pos ⟨rfl, hz⟩] at hn
        have hz2 : ((r.size : Int) == 8) = true := by rw [hz]; rfl
        have hpa := fun w he => parse_int r (by omega) w he
        have HPA := Lib.hid hpa
        have HN := Lib.hid hn
        clear hpa hn hz
        go_enter Tryz.func5, Tryz.ntmps5
        go_wp2_with fail
        refine (HCUT.out _).mono ?_
        rintro e w1 ⟨rfl, rfl⟩
        go_wp2_with fail
        refine (HPA.out _ HE.out).mono ?_
        rintro e w2 ⟨⟨v, hv, rfl⟩ | ⟨hno, y, t, p, rfl⟩, hc2⟩
        · have hn := HN.out
          rw [hv] at hn
          have hbd := Lib.parseIntB_bounds hv
          have hff := HF.out v (by simp at hbd; omega) (by simp at hbd; omega) w2 (HT.out.chg hc2)
          obtain ⟨f, hf⟩ : ∃ f, fileB k v = f := ⟨_, rfl⟩
          have hfl : fileL k.data.toList v = f.data.toList := by rw [← hf]; rfl
          rw [hf] at hff
          simp only [hfl] at hn
          have htest := ba_test f s
          by_cases hfs : f = s
          · rw [if_pos (by rw [hfs])] at hn
            injection hn with hx hb
            subst hx hb
            rw [decide_eq_true hfs] at htest
            have HFF := Lib.hid hff
            have HC2 := Lib.hid hc2
            clear hff hc2 hv hfl hf hfs HN hbd
            go_wp2_with fail
            refine HFF.out.mono ?_
            rintro e w3 ⟨rfl, hc3⟩
            have HC3 := Lib.hid (HC2.out.then hc3)
            clear hc3
            go_wp2_with fail
            go_ret2
            exact ⟨rfl, HC3.out⟩
          · rw [if_neg (fun e => hfs (ba_eq e))] at hn
            injection hn with hx hb
            subst hx hb
            rw [decide_eq_false hfs] at htest
            have HFF := Lib.hid hff
            have HC2 := Lib.hid hc2
            clear hff hc2 hv hfl hf hfs HN hbd
            go_wp2_with fail
            refine HFF.out.mono ?_
            rintro e w3 ⟨rfl, hc3⟩
            have HC3 := Lib.hid (HC2.out.then hc3)
            clear hc3
            go_wp2_with fail
            go_ret2
            exact ⟨rfl, HC3.out⟩
        · have hn := HN.out
          have h2 : (x, b) = ((0 : Int), false) := by
            rw [hn]
            split
            · rename_i v hv
              exact absurd hv (hno v)
            · rfl
          injection h2 with hx hb
          subst hx hb
          have HC2 := Lib.hid hc2
          clear hc2 hno hn HN
          go_wp2_with fail
          go_ret2
          exact ⟨rfl, HC2.out⟩
      · rw [if_neg (fun h => hz h.2)] at hn
        injection hn with hx hb
        subst hx hb
        have hz2 : ((r.size : Int) == 8) = false := by rw [beq_eq_false_iff_ne]; omega
        clear hz
        go_enter Tryz.func5, Tryz.ntmps5
        go_wp2_with fail
        refine (HCUT.out _).mono ?_
        rintro e w1 ⟨rfl, rfl⟩
        go_wp2_with fail
        go_ret2
        exact ⟨rfl, Chg.refl _ _⟩
  exact main _ _ rfl
end Go.Proofs.YtjfbcjmnjlehaaaGreatDoor
