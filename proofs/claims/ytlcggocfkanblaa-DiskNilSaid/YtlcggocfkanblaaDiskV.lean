/-
  Of a nil disk every call is refused.
-/
import Derived.Test.YtlcggocfkanblaaDiskT
namespace Go.Proofs.Ytlcggocfkanblaa
open Go.RowKit
set_option linter.unusedVariables false
set_option linter.unusedSimpArgs false

section
variable (n s : ByteArray) (w : World)
theorem nil_create : Calls Try.prog 10 #[.pointer none, .string n] w fun e w' => e = .returned (.int .i64 1) ∧ Chg (fun _ => False) w w' := by
  go_enter Try.func10, Try.ntmps10
  go_wp2_with fail
  refine (disk_find_nil n _).mono ?_
  rintro e w' ⟨rfl, rfl⟩
  go_wp2_with fail
  go_ret
  exact ⟨rfl, by ((repeat (first | exact Chg.refl _ _ | assumption | refine Chg.drewN ?_ _ | refine Chg.drew ?_ | refine Chg.alloc ?_ _ | refine Chg.setCell ?_ (by simp) _)))⟩
theorem nil_append : Calls Try.prog 11 #[.pointer none, .string n, .string s] w fun e w' => e = .returned (.int .i64 1) ∧ Chg (fun _ => False) w w' := by
  go_enter Try.func11, Try.ntmps11
  go_wp2_with fail
  refine (disk_find_nil n _).mono ?_
  rintro e w' ⟨rfl, rfl⟩
  go_wp2_with fail
  go_ret
  exact ⟨rfl, by ((repeat (first | exact Chg.refl _ _ | assumption | refine Chg.drewN ?_ _ | refine Chg.drew ?_ | refine Chg.alloc ?_ _ | refine Chg.setCell ?_ (by simp) _)))⟩
theorem nil_sync : Calls Try.prog 12 #[.pointer none, .string n] w fun e w' => e = .returned (.int .i64 1) ∧ Chg (fun _ => False) w w' := by
  go_enter Try.func12, Try.ntmps12
  go_wp2_with fail
  refine (disk_find_nil n _).mono ?_
  rintro e w' ⟨rfl, rfl⟩
  go_wp2_with fail
  go_ret
  exact ⟨rfl, by ((repeat (first | exact Chg.refl _ _ | assumption | refine Chg.drewN ?_ _ | refine Chg.drew ?_ | refine Chg.alloc ?_ _ | refine Chg.setCell ?_ (by simp) _)))⟩
theorem nil_syncdir : Calls Try.prog 13 #[.pointer none] w fun e w' => e = .returned (.int .i64 1) ∧ Chg (fun _ => False) w w' := by
  go_enter Try.func13, Try.ntmps13
  go_wp2_with fail
  refine (disk_may_nil _).mono ?_
  rintro e w' ⟨rfl, rfl⟩
  go_wp2_with fail
  go_ret
  exact ⟨rfl, by ((repeat (first | exact Chg.refl _ _ | assumption | refine Chg.drewN ?_ _ | refine Chg.drew ?_ | refine Chg.alloc ?_ _ | refine Chg.setCell ?_ (by simp) _)))⟩
theorem nil_rename : Calls Try.prog 15 #[.pointer none, .string n, .string s] w fun e w' => e = .returned (.int .i64 1) ∧ Chg (fun _ => False) w w' := by
  go_enter Try.func15, Try.ntmps15
  go_wp2_with fail
  refine (disk_find_nil n _).mono ?_
  rintro e w' ⟨rfl, rfl⟩
  go_wp2_with fail
  go_ret
  exact ⟨rfl, by ((repeat (first | exact Chg.refl _ _ | assumption | refine Chg.drewN ?_ _ | refine Chg.drew ?_ | refine Chg.alloc ?_ _ | refine Chg.setCell ?_ (by simp) _)))⟩
theorem nil_remove : Calls Try.prog 22 #[.pointer none, .string n] w fun e w' => e = .returned (.int .i64 1) ∧ Chg (fun _ => False) w w' := by
  go_enter Try.func22, Try.ntmps22
  go_wp2_with fail
  refine (disk_find_nil n _).mono ?_
  rintro e w' ⟨rfl, rfl⟩
  go_wp2_with fail
  go_ret
  exact ⟨rfl, by ((repeat (first | exact Chg.refl _ _ | assumption | refine Chg.drewN ?_ _ | refine Chg.drew ?_ | refine Chg.alloc ?_ _ | refine Chg.setCell ?_ (by simp) _)))⟩
theorem nil_read : Calls Try.prog 17 #[.pointer none, .string n] w fun e w' => e = .returned (.tuple #[.string ⟨#[]⟩, .int .i64 1]) ∧ Chg (fun _ => False) w w' := by
  go_enter Try.func17, Try.ntmps17
  go_wp2_with fail
  refine (disk_find_nil n _).mono ?_
  rintro e w' ⟨rfl, rfl⟩
  go_wp2_with fail
  go_ret2
  exact ⟨rfl, by ((repeat (first | exact Chg.refl _ _ | assumption | refine Chg.drewN ?_ _ | refine Chg.drew ?_ | refine Chg.alloc ?_ _ | refine Chg.setCell ?_ (by simp) _)))⟩
theorem nil_list : Calls Try.prog 18 #[.pointer none] w fun e w' => e = .returned (.slice none 0 0) ∧ Chg (fun _ => False) w w' := by
  go_enter Try.func18, Try.ntmps18
  go_wp2_with fail
  go_ret
  exact ⟨rfl, by ((repeat (first | exact Chg.refl _ _ | assumption | refine Chg.drewN ?_ _ | refine Chg.drew ?_ | refine Chg.alloc ?_ _ | refine Chg.setCell ?_ (by simp) _)))⟩
theorem nil_used : Calls Try.prog 23 #[.pointer none] w fun e w' => e = .returned (.int .i64 0) ∧ Chg (fun _ => False) w w' := by
  go_enter Try.func23, Try.ntmps23
  go_wp2_with fail
  go_ret
  exact ⟨rfl, by ((repeat (first | exact Chg.refl _ _ | assumption | refine Chg.drewN ?_ _ | refine Chg.drew ?_ | refine Chg.alloc ?_ _ | refine Chg.setCell ?_ (by simp) _)))⟩
theorem nil_off : Calls Try.prog 24 #[.pointer none] w fun e w' => e = .returned (.bool false) ∧ Chg (fun _ => False) w w' := by
  go_enter Try.func24, Try.ntmps24
  go_wp2_with fail
  go_ret
  exact ⟨rfl, by ((repeat (first | exact Chg.refl _ _ | assumption | refine Chg.drewN ?_ _ | refine Chg.drew ?_ | refine Chg.alloc ?_ _ | refine Chg.setCell ?_ (by simp) _)))⟩
theorem nil_crash (a : Int) (v : Value) : Calls Try.prog 16 #[.pointer none, .int .i64 a, v] w fun e w' => e = .returned (.tuple #[]) ∧ Chg (fun _ => False) w w' := by
  go_enter Try.func16, Try.ntmps16
  go_wp2_with fail
  first | go_end0 | refine bodyPost_ret (results_none rfl _ _ _) rfl ?_
  exact ⟨rfl, by ((repeat (first | exact Chg.refl _ _ | assumption | refine Chg.drewN ?_ _ | refine Chg.drew ?_ | refine Chg.alloc ?_ _ | refine Chg.setCell ?_ (by simp) _)))⟩
theorem nil_cut (a b : Int) (v : Value) : Calls Try.prog 14 #[.pointer none, .int .i64 a, .int .i64 b, v] w fun e w' => e = .returned (.tuple #[]) ∧ Chg (fun _ => False) w w' := by
  go_enter Try.func14, Try.ntmps14
  go_wp2_with fail
  first | go_end0 | refine bodyPost_ret (results_none rfl _ _ _) rfl ?_
  exact ⟨rfl, by ((repeat (first | exact Chg.refl _ _ | assumption | refine Chg.drewN ?_ _ | refine Chg.drew ?_ | refine Chg.alloc ?_ _ | refine Chg.setCell ?_ (by simp) _)))⟩
theorem nil_break (a : Int) : Calls Try.prog 19 #[.pointer none, .int .i64 a] w fun e w' => e = .returned (.tuple #[]) ∧ Chg (fun _ => False) w w' := by
  go_enter Try.func19, Try.ntmps19
  go_wp2_with fail
  first | go_end0 | refine bodyPost_ret (results_none rfl _ _ _) rfl ?_
  exact ⟨rfl, by ((repeat (first | exact Chg.refl _ _ | assumption | refine Chg.drewN ?_ _ | refine Chg.drew ?_ | refine Chg.alloc ?_ _ | refine Chg.setCell ?_ (by simp) _)))⟩
theorem nil_on : Calls Try.prog 20 #[.pointer none] w fun e w' => e = .returned (.tuple #[]) ∧ Chg (fun _ => False) w w' := by
  go_enter Try.func20, Try.ntmps20
  go_wp2_with fail
  first | go_end0 | refine bodyPost_ret (results_none rfl _ _ _) rfl ?_
  exact ⟨rfl, by ((repeat (first | exact Chg.refl _ _ | assumption | refine Chg.drewN ?_ _ | refine Chg.drew ?_ | refine Chg.alloc ?_ _ | refine Chg.setCell ?_ (by simp) _)))⟩
theorem nil_spoil (a : Int) : Calls Try.prog 21 #[.pointer none, .string n, .int .i64 a] w fun e w' => e = .returned (.tuple #[]) ∧ Chg (fun _ => False) w w' := by
  go_enter Try.func21, Try.ntmps21
  go_wp2_with fail
  first | go_end0 | refine bodyPost_ret (results_none rfl _ _ _) rfl ?_
  exact ⟨rfl, by ((repeat (first | exact Chg.refl _ _ | assumption | refine Chg.drewN ?_ _ | refine Chg.drew ?_ | refine Chg.alloc ?_ _ | refine Chg.setCell ?_ (by simp) _)))⟩
end

set_option maxRecDepth 100000 in
set_option maxHeartbeats 2000000 in
theorem disk_nil (n t : ByteArray) (w : World) : Calls Try.prog 5 #[.string n, .string t] w fun e w' => e = .returned (.bool true) ∧ Chg (fun _ => False) w w' := by
  go_enter Try.func5, Try.ntmps5
  go_wp2_with fail
  refine (nil_crash _ _ _).mono ?_
  rintro e w1 ⟨rfl, h1⟩
  have H1 : Hid (Chg (fun _ => False) w w1) := Lib.hid (Chg.then (by ((repeat (first | exact Chg.refl _ _ | assumption | refine Chg.drewN ?_ _ | refine Chg.drew ?_ | refine Chg.alloc ?_ _ | refine Chg.setCell ?_ (by simp) _)))) h1)
  clear h1
  go_wp2_with fail
  refine (nil_cut _ _ _ _).mono ?_
  rintro e w2 ⟨rfl, h2⟩
  have H2 : Hid (Chg (fun _ => False) w w2) := Lib.hid (Chg.then (by have := H1.out; ((repeat (first | exact Chg.refl _ _ | assumption | refine Chg.drewN ?_ _ | refine Chg.drew ?_ | refine Chg.alloc ?_ _ | refine Chg.setCell ?_ (by simp) _)))) h2)
  clear h2
  clear H1
  go_wp2_with fail
  refine (nil_break _ _).mono ?_
  rintro e w3 ⟨rfl, h3⟩
  have H3 : Hid (Chg (fun _ => False) w w3) := Lib.hid (Chg.then (by have := H2.out; ((repeat (first | exact Chg.refl _ _ | assumption | refine Chg.drewN ?_ _ | refine Chg.drew ?_ | refine Chg.alloc ?_ _ | refine Chg.setCell ?_ (by simp) _)))) h3)
  clear h3
  clear H2
  go_wp2_with fail
  refine (nil_on _).mono ?_
  rintro e w4 ⟨rfl, h4⟩
  have H4 : Hid (Chg (fun _ => False) w w4) := Lib.hid (Chg.then (by have := H3.out; ((repeat (first | exact Chg.refl _ _ | assumption | refine Chg.drewN ?_ _ | refine Chg.drew ?_ | refine Chg.alloc ?_ _ | refine Chg.setCell ?_ (by simp) _)))) h4)
  clear h4
  clear H3
  go_wp2_with fail
  refine (nil_spoil _ _ _).mono ?_
  rintro e w5 ⟨rfl, h5⟩
  have H5 : Hid (Chg (fun _ => False) w w5) := Lib.hid (Chg.then (by have := H4.out; ((repeat (first | exact Chg.refl _ _ | assumption | refine Chg.drewN ?_ _ | refine Chg.drew ?_ | refine Chg.alloc ?_ _ | refine Chg.setCell ?_ (by simp) _)))) h5)
  clear h5
  clear H4
  go_wp2_with fail
  refine (nil_read _ _).mono ?_
  rintro e w6 ⟨rfl, h6⟩
  have H6 : Hid (Chg (fun _ => False) w w6) := Lib.hid (Chg.then (by have := H5.out; ((repeat (first | exact Chg.refl _ _ | assumption | refine Chg.drewN ?_ _ | refine Chg.drew ?_ | refine Chg.alloc ?_ _ | refine Chg.setCell ?_ (by simp) _)))) h6)
  clear h6
  clear H5
  go_wp2_with fail
  refine (disk_wakes _).mono ?_
  rintro e w7 ⟨rfl, h7⟩
  have H7 : Hid (Chg (fun _ => False) w w7) := Lib.hid (Chg.then (by have := H6.out; ((repeat (first | exact Chg.refl _ _ | assumption | refine Chg.drewN ?_ _ | refine Chg.drew ?_ | refine Chg.alloc ?_ _ | refine Chg.setCell ?_ (by simp) _)))) h7)
  clear h7
  clear H6
  go_wp2_with fail
  refine (nil_create _ _).mono ?_
  rintro e w8 ⟨rfl, h8⟩
  have H8 : Hid (Chg (fun _ => False) w w8) := Lib.hid (Chg.then (by have := H7.out; ((repeat (first | exact Chg.refl _ _ | assumption | refine Chg.drewN ?_ _ | refine Chg.drew ?_ | refine Chg.alloc ?_ _ | refine Chg.setCell ?_ (by simp) _)))) h8)
  clear h8
  clear H7
  go_wp2_with fail
  refine (nil_append _ _ _).mono ?_
  rintro e w9 ⟨rfl, h9⟩
  have H9 : Hid (Chg (fun _ => False) w w9) := Lib.hid (Chg.then (by have := H8.out; ((repeat (first | exact Chg.refl _ _ | assumption | refine Chg.drewN ?_ _ | refine Chg.drew ?_ | refine Chg.alloc ?_ _ | refine Chg.setCell ?_ (by simp) _)))) h9)
  clear h9
  clear H8
  go_wp2_with fail
  refine (nil_sync _ _).mono ?_
  rintro e w10 ⟨rfl, h10⟩
  have H10 : Hid (Chg (fun _ => False) w w10) := Lib.hid (Chg.then (by have := H9.out; ((repeat (first | exact Chg.refl _ _ | assumption | refine Chg.drewN ?_ _ | refine Chg.drew ?_ | refine Chg.alloc ?_ _ | refine Chg.setCell ?_ (by simp) _)))) h10)
  clear h10
  clear H9
  go_wp2_with fail
  refine (nil_syncdir _).mono ?_
  rintro e w11 ⟨rfl, h11⟩
  have H11 : Hid (Chg (fun _ => False) w w11) := Lib.hid (Chg.then (by have := H10.out; ((repeat (first | exact Chg.refl _ _ | assumption | refine Chg.drewN ?_ _ | refine Chg.drew ?_ | refine Chg.alloc ?_ _ | refine Chg.setCell ?_ (by simp) _)))) h11)
  clear h11
  clear H10
  go_wp2_with fail
  refine (nil_rename _ _ _).mono ?_
  rintro e w12 ⟨rfl, h12⟩
  have H12 : Hid (Chg (fun _ => False) w w12) := Lib.hid (Chg.then (by have := H11.out; ((repeat (first | exact Chg.refl _ _ | assumption | refine Chg.drewN ?_ _ | refine Chg.drew ?_ | refine Chg.alloc ?_ _ | refine Chg.setCell ?_ (by simp) _)))) h12)
  clear h12
  clear H11
  go_wp2_with fail
  refine (nil_remove _ _).mono ?_
  rintro e w13 ⟨rfl, h13⟩
  have H13 : Hid (Chg (fun _ => False) w w13) := Lib.hid (Chg.then (by have := H12.out; ((repeat (first | exact Chg.refl _ _ | assumption | refine Chg.drewN ?_ _ | refine Chg.drew ?_ | refine Chg.alloc ?_ _ | refine Chg.setCell ?_ (by simp) _)))) h13)
  clear h13
  clear H12
  go_wp2_with fail
  refine (nil_list _).mono ?_
  rintro e w14 ⟨rfl, h14⟩
  have H14 : Hid (Chg (fun _ => False) w w14) := Lib.hid (Chg.then (by have := H13.out; ((repeat (first | exact Chg.refl _ _ | assumption | refine Chg.drewN ?_ _ | refine Chg.drew ?_ | refine Chg.alloc ?_ _ | refine Chg.setCell ?_ (by simp) _)))) h14)
  clear h14
  clear H13
  go_wp2_with fail
  refine (nil_used _).mono ?_
  rintro e w15 ⟨rfl, h15⟩
  have H15 : Hid (Chg (fun _ => False) w w15) := Lib.hid (Chg.then (by have := H14.out; ((repeat (first | exact Chg.refl _ _ | assumption | refine Chg.drewN ?_ _ | refine Chg.drew ?_ | refine Chg.alloc ?_ _ | refine Chg.setCell ?_ (by simp) _)))) h15)
  clear h15
  clear H14
  go_wp2_with fail
  refine (nil_off _).mono ?_
  rintro e w16 ⟨rfl, h16⟩
  have H16 : Hid (Chg (fun _ => False) w w16) := Lib.hid (Chg.then (by have := H15.out; ((repeat (first | exact Chg.refl _ _ | assumption | refine Chg.drewN ?_ _ | refine Chg.drew ?_ | refine Chg.alloc ?_ _ | refine Chg.setCell ?_ (by simp) _)))) h16)
  clear h16
  clear H15
  go_wp2_with fail
  go_ret
  exact ⟨rfl, H16.out⟩
end Go.Proofs.Ytlcggocfkanblaa
