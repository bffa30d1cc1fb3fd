/-
  Names of logs, for the small numbers that the laws use.
-/
import Derived.Test.YtjfbcjmnjlehaaaGreatDoorLay
import Derived.Test.YtjfbcjmnjlehaaaGreatDoorFraD
namespace Go.Proofs.YtjfbcjmnjlehaaaGreatDoor
open Go.RowKit Go.Shelf
set_option linter.unusedVariables false
set_option linter.unusedSimpArgs false

theorem rep_extra : Builder.Extra Tryz.prog Tryz.strRep_ren where
  sizeBuilder := by kernel_rfl
  liesBuilder := by kernel_rfl
  t5 := Tryz.strRep.t5
  a5 := Tryz.strRep.a5
  z5 := Tryz.strRep.z5
  v5 := Tryz.strRep.v5
  infoByte := by kernel_rfl
  cellsByte := by kernel_rfl
  sizeByte := by kernel_rfl
  neB5 := by decide
theorem ren_trim : Tryz.strTrim_ren.f 160 = 25 := by kernel_rfl
theorem ren_fmt : Tryz.fmtInt_ren.f 173 = 26 := by kernel_rfl
theorem ren_rep : Tryz.strRep_ren.f 105 = 27 := by kernel_rfl
def letters : ByteArray := ⟨#[97, 98, 99, 100, 101, 102, 103, 104, 105, 106, 107, 108, 109, 110, 111, 112, 113, 114, 115, 116, 117, 118, 119, 120, 121, 122]⟩
theorem str_trim (s : ByteArray) (w : World) (hs : s.size ≤ 1000000000) : Calls Tryz.prog 25 #[.string s, .string letters] w fun e w' => e = .returned (.string ⟨(Lib.trimS s.data.toList letters.data.toList).toArray⟩) ∧ Chg (fun _ => False) w w' := by
  have h := Any.strings_Trim_laid Tryz.strTrim (by kernel_rfl) s letters w (by omega) (by decide) (ascii_of_all (by decide))
  rw [ren_trim] at h
  exact h.mono fun e w' ⟨he, hb⟩ => ⟨he, Chg.of_below hb⟩
theorem fmt_small (i : Nat) (hi : i < 100) (w : World) : Calls Tryz.prog 26 #[.int .i64 (i : Int), .int .i64 10] w fun e w' => e = .returned (.string ⟨(Lib.decDigits i).toArray⟩) ∧ w = w' := by
  have h := Any.strconv_FormatInt_10_small Tryz.fmtInt i hi w
  rw [ren_fmt] at h
  exact h.mono fun e w' ⟨he, hw⟩ => ⟨he, hw.symm⟩
theorem str_rep (s : ByteArray) (c : Nat) (w : World) (hlen : s.size * c ≤ 140737488355328) (hc : c ≤ 9223372036854775807) : Calls Tryz.prog 27 #[.string s, .int .i64 (c : Int)] w fun e w' => e = .returned (.string ⟨(Lib.repeatL s.data.toList c).toArray⟩) ∧ Chg (fun _ => False) w w' := by
  have h := Any.strings_Repeat Tryz.strRep rep_extra s c w hc hlen
  rw [ren_rep] at h
  exact h.mono fun e w' ⟨he, hb⟩ => ⟨he, Chg.of_below hb⟩
/-- log-0000000n. -/
def logN (n : Nat) : ByteArray := ⟨#[108, 111, 103, 45, 48, 48, 48, 48, 48, 48, 48, u8 (48 + n)]⟩
theorem digits_one (n : Nat) (h : n < 10) : Lib.decDigits n = [u8 (48 + n)] := Lib.decDigits_one h
theorem wal_name (n : Nat) (hn : n < 10) (w : World) : Calls Tryz.prog 10 #[.int .i64 (n : Int)] w fun e w' => e = .returned (.string (logN n)) ∧ Chg (fun _ => False) w w' := by
  have h1 := fun w => str_trim ⟨#[108, 111, 103]⟩ w (by decide)
  have e1 : Lib.trimS (⟨#[108, 111, 103]⟩ : ByteArray).data.toList letters.data.toList = [] := by decide
  rw [e1] at h1
  have h2 := fun w => fmt_small n (by omega) w
  rw [digits_one n hn] at h2
  have h3 := fun w => str_rep ⟨#[48]⟩ 7 w (by decide) (by decide)
  have e3 : Lib.repeatL (⟨#[48]⟩ : ByteArray).data.toList 7 = [48, 48, 48, 48, 48, 48, 48] := by decide
  rw [e3] at h3
  have H1 := Lib.hid h1
  have H2 := Lib.hid h2
  have H3 := Lib.hid h3
  clear h1 h2 h3 e1 e3
  have file : ∀ w, Calls Tryz.prog 8 #[.string ⟨#[108, 111, 103]⟩, .int .i64 (n : Int)] w fun e w' => e = .returned (.string (logN n)) ∧ Chg (fun _ => False) w w' := fun w => by
    go_enter Tryz.func8, Tryz.ntmps8
    go_wp2_with fail
    refine (H1.out _).mono ?_
    rintro e w1 ⟨rfl, hc1⟩
    have HC1 := Lib.hid hc1
    clear hc1
    go_wp2_with fail
    refine (H2.out _).mono ?_
    rintro e w2 ⟨rfl, rfl⟩
    go_wp2_with fail
    refine (H3.out _).mono ?_
    rintro e w2 ⟨rfl, hc2⟩
    have HC2 := Lib.hid (HC1.out.then hc2)
    clear hc2
    go_wp2_with fail
    go_ret
    exact ⟨rfl, HC2.out⟩
  have HF := Lib.hid file
  clear file
  go_enter Tryz.func10, Tryz.ntmps10
  go_wp2_with fail
  refine (HF.out _).mono ?_
  rintro e w1 ⟨rfl, hc1⟩
  go_wp2_with fail
  go_ret
  exact ⟨rfl, hc1⟩
end Go.Proofs.YtjfbcjmnjlehaaaGreatDoor
