/-
  What is told of a nil store, and of one that is closed.
-/
import Derived.Test.YtljabmkmngbhkaaGreatDoorProg
import Derived.Test.YtljabmkmngbhkaaGreatDoorZMg10
import Derived.Test.YtljabmkmngbhkaaGreatDoorZMg13
import Derived.Test.YtljabmkmngbhkaaGreatDoorZMg18
import Derived.Defers
namespace Go.Proofs.YtljabmkmngbhkaaGreatDoor
open Go.RowKit
set_option linter.unusedVariables false
set_option linter.unusedSimpArgs false

/-- The receiver is nil (n = 1), or its store is closed (n = 15). -/
def NoSt (w : World) (r : Option Addr) (n : Int) : Prop := (r = none ∧ n = 1) ∨ ∃ s, r = some ⟨s, 0, none⟩ ∧ n = 15 ∧ w.cell? ⟨s, 30, none⟩ = some (.bool true) ∧ ∃ b, w.cell? ⟨s, 10, none⟩ = some (.pointer (some ⟨b, 0, none⟩))
theorem NoSt.chg {w w' : World} {r : Option Addr} {n : Int} (h : NoSt w r n) (hc : Chg (fun _ => False) w w') : NoSt w' r n := by
  rcases h with h | ⟨s, h1, h2, h3, b, h4⟩
  · exact .inl h
  · exact .inr ⟨s, h1, h2, ky_chg hc h3, b, ky_chg hc h4⟩
set_option maxRecDepth 100000 in
set_option maxHeartbeats 4000000 in
theorem no_writes (w : World) (r : Option Addr) (n : Int) (h : NoSt w r n) : Calls Tryz.prog 30 #[.pointer r] w fun e w' => e = .returned (.int .i64 n) ∧ w = w' := by
  rcases h with ⟨rfl, rfl⟩ | ⟨s, rfl, rfl, h3, _⟩
  · go_enter Tryz.func30, Tryz.ntmps30
    go_wp2
    go_ret
    exact ⟨rfl, rfl⟩
  · go_enter Tryz.func30, Tryz.ntmps30
    go_wp2
    go_ret
    exact ⟨rfl, rfl⟩
theorem no_neq {w : World} {r : Option Addr} {n : Int} (h : NoSt w r n) : (n != 0) = true ∧ (n == 0) = false := by
  rcases h with ⟨rfl, rfl⟩ | ⟨s, rfl, rfl, h3, _⟩ <;> exact ⟨rfl, rfl⟩
set_option maxRecDepth 100000 in
set_option maxHeartbeats 4000000 in
theorem no_commit (w : World) (r : Option Addr) (n : Int) (h : NoSt w r n) : Calls Tryz.prog 6 #[.pointer r, .slice none 0 0] w fun e w' => e = .returned (.tuple #[.int .i64 0, .int .i64 n]) ∧ w = w' := by
  have hw := no_writes w r n h
  obtain ⟨q1, q2⟩ := no_neq h
  have HW := Lib.hid hw
  clear hw
  clear h
  go_enter Tryz.func6, Tryz.ntmps6
  go_wp2_with fail
  refine HW.out.mono ?_
  rintro e w' ⟨rfl, rfl⟩
  go_wp2_with fail
  go_ret2
  exact ⟨rfl, rfl⟩
set_option maxRecDepth 100000 in
set_option maxHeartbeats 4000000 in
theorem no_flush (w : World) (r : Option Addr) (n : Int) (h : NoSt w r n) : Calls Tryz.prog 16 #[.pointer r] w fun e w' => e = .returned (.int .i64 n) ∧ w = w' := by
  have hw := no_writes w r n h
  obtain ⟨q1, q2⟩ := no_neq h
  have HW := Lib.hid hw
  clear hw
  clear h
  go_enter Tryz.func16, Tryz.ntmps16
  go_wp2_with fail
  refine HW.out.mono ?_
  rintro e w' ⟨rfl, rfl⟩
  go_wp2_with fail
  go_ret
  exact ⟨rfl, rfl⟩
set_option maxRecDepth 100000 in
set_option maxHeartbeats 4000000 in
theorem no_step (w : World) (r : Option Addr) (n : Int) (h : NoSt w r n) : Calls Tryz.prog 10 #[.pointer r] w fun e w' => e = .returned (.tuple #[.bool false, .int .i64 n]) ∧ w = w' := by
  have hw := no_writes w r n h
  obtain ⟨q1, q2⟩ := no_neq h
  have HW := Lib.hid hw
  clear hw
  clear h
  go_enter Tryz.func10, Tryz.ntmps10
  go_wp2_with fail
  refine HW.out.mono ?_
  rintro e w' ⟨rfl, rfl⟩
  go_wp2_with fail
  go_ret2
  exact ⟨rfl, rfl⟩
set_option maxRecDepth 100000 in
set_option maxHeartbeats 4000000 in
theorem no_get (w : World) (r : Option Addr) (n : Int) (k : ByteArray) (q : Int) (h : NoSt w r n) : Calls Tryz.prog 7 #[.pointer r, .string k, .int .i64 q] w fun e w' => e = .returned (.tuple #[entA zeroE, .bool false, .int .i64 n]) ∧ Chg (fun _ => False) w w' := by
  rcases h with ⟨rfl, rfl⟩ | ⟨s, rfl, rfl, h3, _⟩
  · go_enter Tryz.func7, Tryz.ntmps7
    go_wp2
    exact bodyPost_ret (v := .tuple #[.agg #[.string ⟨#[]⟩, .int .i64 0, .bool false, .string ⟨#[]⟩, .int .i64 0], .bool false, .int .i64 1]) (by simp [results, Tryz.results7, go_sem]) rfl ⟨rfl, cgS⟩
  · have h3 := ky_alloc (.cells #[.string ⟨#[]⟩, .int .i64 0, .bool false, .string ⟨#[]⟩, .int .i64 0] 41) h3
    go_enter Tryz.func7, Tryz.ntmps7
    go_wp2
    exact bodyPost_ret (v := .tuple #[.agg #[.string ⟨#[]⟩, .int .i64 0, .bool false, .string ⟨#[]⟩, .int .i64 0], .bool false, .int .i64 15]) (by simp [results, Tryz.results7, go_sem]) rfl ⟨rfl, cgS⟩
set_option maxRecDepth 100000 in
set_option maxHeartbeats 4000000 in
theorem no_next (w : World) (r : Option Addr) (n : Int) (k1 k2 : ByteArray) (q : Int) (h : NoSt w r n) : Calls Tryz.prog 9 #[.pointer r, .string k1, .string k2, .int .i64 q] w fun e w' => e = .returned (.tuple #[entA zeroE, .bool false, .int .i64 n]) ∧ Chg (fun _ => False) w w' := by
  rcases h with ⟨rfl, rfl⟩ | ⟨s, rfl, rfl, h3, _⟩
  · go_enter Tryz.func9, Tryz.ntmps9
    go_wp2
    exact bodyPost_ret (v := .tuple #[.agg #[.string ⟨#[]⟩, .int .i64 0, .bool false, .string ⟨#[]⟩, .int .i64 0], .bool false, .int .i64 1]) (by simp [results, Tryz.results9, go_sem]) rfl ⟨rfl, cgS⟩
  · have h30 := ky_alloc (.cells #[.string ⟨#[]⟩, .int .i64 0, .bool false, .string ⟨#[]⟩, .int .i64 0] 41) h3
    have h31 := ky_alloc (.cells #[.string ⟨#[]⟩, .int .i64 0, .bool false, .string ⟨#[]⟩, .int .i64 0] 41) h30
    go_enter Tryz.func9, Tryz.ntmps9
    go_wp2
    exact bodyPost_ret (v := .tuple #[.agg #[.string ⟨#[]⟩, .int .i64 0, .bool false, .string ⟨#[]⟩, .int .i64 0], .bool false, .int .i64 15]) (by simp [results, Tryz.results9, go_sem]) rfl ⟨rfl, cgS⟩
set_option maxRecDepth 100000 in
set_option maxHeartbeats 4000000 in
theorem no_snap (w : World) (r : Option Addr) (n : Int) (h : NoSt w r n) : Calls Tryz.prog 17 #[.pointer r] w fun e w' => e = .returned (.int .i64 0) ∧ w = w' := by
  rcases h with ⟨rfl, rfl⟩ | ⟨s, rfl, rfl, h3, _⟩ <;>
  · go_enter Tryz.func17, Tryz.ntmps17
    go_wp2
    go_ret
    exact ⟨rfl, rfl⟩
set_option maxRecDepth 100000 in
set_option maxHeartbeats 4000000 in
theorem no_held (w : World) (r : Option Addr) (n : Int) (h : NoSt w r n) : Calls Tryz.prog 20 #[.pointer r] w fun e w' => e = .returned (.int .i64 0) ∧ w = w' := by
  rcases h with ⟨rfl, rfl⟩ | ⟨s, rfl, rfl, h3, _⟩
  · go_enter Tryz.func20, Tryz.ntmps20
    go_wp2
    go_ret
    exact ⟨rfl, rfl⟩
  · go_enter Tryz.func20, Tryz.ntmps20
    go_wp2
    go_ret
    exact ⟨rfl, rfl⟩
set_option maxRecDepth 100000 in
set_option maxHeartbeats 4000000 in
theorem no_release (w : World) (q : Int) : Calls Tryz.prog 18 #[.pointer none, .int .i64 q] w fun e w' => e = .returned (.bool false) ∧ w = w' := by
  go_enter Tryz.func18, Tryz.ntmps18
  go_wp2
  go_ret
  exact ⟨rfl, rfl⟩
set_option maxRecDepth 100000 in
set_option maxHeartbeats 4000000 in
theorem no_seq (w : World) : Calls Tryz.prog 19 #[.pointer none] w fun e w' => e = .returned (.int .i64 0) ∧ w = w' := by
  go_enter Tryz.func19, Tryz.ntmps19
  go_wp2
  go_ret
  exact ⟨rfl, rfl⟩
set_option maxRecDepth 100000 in
set_option maxHeartbeats 4000000 in
theorem no_budget (w : World) : Calls Tryz.prog 21 #[.pointer none] w fun e w' => e = .returned (.pointer none) ∧ w = w' := by
  go_enter Tryz.func21, Tryz.ntmps21
  go_wp2
  go_ret
  exact ⟨rfl, rfl⟩
set_option maxRecDepth 100000 in
set_option maxHeartbeats 4000000 in
theorem st_budget (w : World) (s b : Nat) (h : w.cell? ⟨s, 10, none⟩ = some (.pointer (some ⟨b, 0, none⟩))) : Calls Tryz.prog 21 #[.pointer (some ⟨s, 0, none⟩)] w fun e w' => e = .returned (.pointer (some ⟨b, 0, none⟩)) ∧ w = w' := by
  go_enter Tryz.func21, Tryz.ntmps21
  go_wp2
  go_ret
  exact ⟨rfl, rfl⟩
set_option maxRecDepth 100000 in
set_option maxHeartbeats 4000000 in
theorem no_now (w : World) (q : Int) : Calls Tryz.prog 11 #[.pointer none, .int .i64 q] w fun e w' => e = .returned (.tuple #[]) ∧ w = w' := by
  go_enter Tryz.func11, Tryz.ntmps11
  go_wp2
  go_end0
  exact ⟨rfl, rfl⟩
set_option maxRecDepth 100000 in
set_option maxHeartbeats 4000000 in
theorem no_close (w : World) : Calls Tryz.prog 12 #[.pointer none] w fun e w' => e = .returned (.tuple #[]) ∧ Chg (fun _ => False) w w' := by
  go_enter Tryz.func12, Tryz.ntmps12
  go_wp2
  exact bodyPost_ret (results_none rfl _ _ _) rfl ⟨rfl, cgS⟩
set_option maxRecDepth 100000 in
set_option maxHeartbeats 4000000 in
theorem no_version (w : World) : Calls Tryz.prog 22 #[.pointer none] w fun e w' => e = .returned (.agg #[.slice none 0 0, .slice none 0 0, .slice none 0 0, .slice none 0 0, .int .i64 0, .int .i64 0, .int .i64 0]) ∧ Chg (fun _ => False) w w' := by
  go_enter Tryz.func22, Tryz.ntmps22
  go_wp2
  exact bodyPost_ret (v := .agg #[.slice none 0 0, .slice none 0 0, .slice none 0 0, .slice none 0 0, .int .i64 0, .int .i64 0, .int .i64 0]) (by simp [results, Tryz.results22, go_sem]) rfl ⟨rfl, cgS⟩
set_option maxRecDepth 100000 in
set_option maxHeartbeats 4000000 in
theorem no_scan (w : World) (r : Option Addr) (n : Int) (k1 k2 : ByteArray) (q m : Int) (h : NoSt w r n) : Calls Tryz.prog 8 #[.pointer r, .string k1, .string k2, .int .i64 q, .int .i64 m] w fun e w' => e = .returned (.tuple #[.slice none 0 0, .int .i64 n]) ∧ Chg (fun _ => False) w w' := by
  rcases h with ⟨rfl, rfl⟩ | ⟨s, rfl, rfl, h3, _⟩
  · go_enter_defers Tryz.func8, Tryz.ntmps8
    go_wp2
    simp [bodyPostD, Leaves, settle, results, Tryz.results8, go_sem]
    exact (Chg.refl _ _).alloc _
  · have h30 := ky_alloc (.cells #[.string k2] 9) h3
    go_enter_defers Tryz.func8, Tryz.ntmps8
    go_wp2
    simp [bodyPostD, Leaves, settle, results, Tryz.results8, go_sem]
    exact (Chg.refl _ _).alloc _
/-! ### Configurations -/
def goodC (memory block bits file : Int) : Bool := decide (1 ≤ memory ∧ memory ≤ 262144 ∧ 1 ≤ block ∧ block ≤ 4096 ∧ 1 ≤ bits ∧ bits ≤ 16 ∧ 1 ≤ file)
set_option maxRecDepth 100000 in
set_option maxHeartbeats 4000000 in
theorem conf_good (li me bl bi fi ze ba ra : Int) (w : World) : Calls Tryz.prog 14 #[.agg #[.int .i64 li, .int .i64 me, .int .i64 bl, .int .i64 bi, .int .i64 fi, .int .i64 ze, .int .i64 ba, .int .i64 ra, .slice none 0 0]] w fun e w' => e = .returned (.bool (goodC me bl bi fi)) ∧ Chg (fun _ => False) w w' := by
  unfold goodC
  by_cases h1 : 1 ≤ me
  · by_cases h2 : me ≤ 262144
    · by_cases h3 : 1 ≤ bl
      · by_cases h4 : bl ≤ 4096
        · by_cases h5 : 1 ≤ bi
          · by_cases h6 : bi ≤ 16
            · by_cases h7 : 1 ≤ fi
              · rw [decide_eq_true ⟨h1, h2, h3, h4, h5, h6, h7⟩]
                go_enter Tryz.func14, Tryz.ntmps14
                go_wp2
                go_ret
                exact ⟨rfl, cgS⟩
              · rw [decide_eq_false (by omega)]
                go_enter Tryz.func14, Tryz.ntmps14
                go_wp2
                go_ret
                exact ⟨rfl, cgS⟩
            · rw [decide_eq_false (by omega)]
              go_enter Tryz.func14, Tryz.ntmps14
              go_wp2
              go_ret
              exact ⟨rfl, cgS⟩
          · rw [decide_eq_false (by omega)]
            go_enter Tryz.func14, Tryz.ntmps14
            go_wp2
            go_ret
            exact ⟨rfl, cgS⟩
        · rw [decide_eq_false (by omega)]
          go_enter Tryz.func14, Tryz.ntmps14
          go_wp2
          go_ret
          exact ⟨rfl, cgS⟩
      · rw [decide_eq_false (by omega)]
        go_enter Tryz.func14, Tryz.ntmps14
        go_wp2
        go_ret
        exact ⟨rfl, cgS⟩
    · rw [decide_eq_false (by omega)]
      go_enter Tryz.func14, Tryz.ntmps14
      go_wp2
      go_ret
      exact ⟨rfl, cgS⟩
  · rw [decide_eq_false (by omega)]
    go_enter Tryz.func14, Tryz.ntmps14
    go_wp2
    go_ret
    exact ⟨rfl, cgS⟩
set_option maxRecDepth 100000 in
set_option maxHeartbeats 4000000 in
theorem r7_good (me bl bi fi : Int) (w : World) : Calls Tryz.prog 15 #[.int .i64 me, .int .i64 bl, .int .i64 bi, .int .i64 fi] w fun e w' => e = .returned (.bool (goodC me bl bi fi)) ∧ w = w' := by
  unfold goodC
  by_cases h1 : 1 ≤ me
  · by_cases h2 : me ≤ 262144
    · by_cases h3 : 1 ≤ bl
      · by_cases h4 : bl ≤ 4096
        · by_cases h5 : 1 ≤ bi
          · by_cases h6 : bi ≤ 16
            · by_cases h7 : 1 ≤ fi
              · rw [decide_eq_true ⟨h1, h2, h3, h4, h5, h6, h7⟩]
                go_enter Tryz.func15, Tryz.ntmps15
                go_wp2
                go_ret
                exact ⟨rfl, rfl⟩
              · rw [decide_eq_false (by omega)]
                go_enter Tryz.func15, Tryz.ntmps15
                go_wp2
                go_ret
                exact ⟨rfl, rfl⟩
            · rw [decide_eq_false (by omega)]
              go_enter Tryz.func15, Tryz.ntmps15
              go_wp2
              go_ret
              exact ⟨rfl, rfl⟩
          · rw [decide_eq_false (by omega)]
            go_enter Tryz.func15, Tryz.ntmps15
            go_wp2
            go_ret
            exact ⟨rfl, rfl⟩
        · rw [decide_eq_false (by omega)]
          go_enter Tryz.func15, Tryz.ntmps15
          go_wp2
          go_ret
          exact ⟨rfl, rfl⟩
      · rw [decide_eq_false (by omega)]
        go_enter Tryz.func15, Tryz.ntmps15
        go_wp2
        go_ret
        exact ⟨rfl, rfl⟩
    · rw [decide_eq_false (by omega)]
      go_enter Tryz.func15, Tryz.ntmps15
      go_wp2
      go_ret
      exact ⟨rfl, rfl⟩
  · rw [decide_eq_false (by omega)]
    go_enter Tryz.func15, Tryz.ntmps15
    go_wp2
    go_ret
    exact ⟨rfl, rfl⟩
end Go.Proofs.YtljabmkmngbhkaaGreatDoor
