/-
  A world in which the library's listed tables and errors are laid; what a row's list gives: the table of powers of ten. Plain lemmas; no condition.
  The document's frame: Sum, Put.
-/
import Derived.Test.YtjfbcjmnjlehaaaGreatDoorZMg01
import Derived.Test.YtjfbcjmnjlehaaaGreatDoorZMg21
import Derived.Test.YtjfbcjmnjlehaaaGreatDoorCards
import Derived.Test.YtjfbcjmnjlehaaaGreatDoorTie
import Derived.ProofKit
import Derived.OpenShut
import Derived.Deep.DeepHandedRow
import Derived.Lib.LaidTab
import Derived.LaidSub
import Derived.MakeChecks
import Derived.Test.YtjfbcjmnjlehaaaGreatDoorZMg18
namespace Go.Proofs.YtjfbcjmnjlehaaaGreatDoor
open Go.ChangeShapes Go.WideShapes Go.ChangeAt Go.RowKit Go.Deep
set_option linter.unusedVariables false
set_option linter.unusedSimpArgs false

/-- The numbers of a table, as cells. -/
def litV : DataW Unit → List Value
  | .lit (.int k n) => [.int k n]
  | _ => []
def tabV : DataW Unit → List Value
  | .agg l => l.flatMap fun x => match x with
    | .agg m => m.flatMap litV
    | x => litV x
  | _ => []
def setV (l : List Value) (o : Obj) : Obj := match o with
  | .cells _ t frozen => Obj.cells l.toArray t frozen
  | o => o
abbrev synS : ByteArray := { data := #[105, 110, 118, 97, 108, 105, 100, 32, 115, 121, 110, 116, 97, 120] }
abbrev rngS : ByteArray := { data := #[118, 97, 108, 117, 101, 32, 111, 117, 116, 32, 111, 102, 32, 114, 97, 110, 103, 101] }
noncomputable def low : Nat := (World.holding Tryz.prog default ⟨#[], #[], []⟩).heap.size
/-- A world for the witness: the settled one, two errors more, the listed variables as their initialisers lay them. -/
noncomputable def laidWorld (os : Os) : World :=
  { World.holding Tryz.prog os ⟨#[.cells #[.string synS] 208, .cells #[.string rngS] 208], #[], []⟩ with heap := (((((((World.holding Tryz.prog os ⟨#[.cells #[.string synS] 208, .cells #[.string rngS] 208], #[], []⟩).heap.modify 2 (setV (tabV Rows.laid_internal_strconv_uint64pow10))).modify 3 (setV (tabV Rows.laid_unicode_utf8_first))).modify 4 (setV (tabV Rows.laid_unicode_utf8_acceptRanges))).modify 6 (setV (tabV Rows.laid_math_bits_deBruijn32tab))).modify 7 (setV (tabV Rows.laid_math_bits_deBruijn64tab))).modify 0 (setV [.iface 206 (.pointer (some ⟨low, 0, none⟩))])).modify 1 (setV [.iface 206 (.pointer (some ⟨low + 1, 0, none⟩))]) }
theorem g_tab : Tryz.prog.globalNamed "internal/strconv.uint64pow10" = some 2 := by kernel_rfl
theorem g_syn : Tryz.prog.globalNamed "strconv.ErrSyntax" = some 0 := by kernel_rfl
theorem g_rng : Tryz.prog.globalNamed "strconv.ErrRange" = some 1 := by kernel_rfl
/-- From a row's list, the one entry of a name. -/
theorem laid_one {l : List (String × DataW Unit)} {W : World} (n : String) (h : laidMetH Tryz.prog l W) {r : List (String × DataW Unit)} (hr : (l.filter fun x => x.1 == n) = r) (hh : (r.all fun x => x.2.handleName?.isNone) = true) : laidMet Tryz.prog r W := by
  have h1 := h.filter fun x => x.1 == n
  rw [hr, MakeChecks.laidMetH_plain _ _ _ hh] at h1
  exact h1
theorem tab_of {l : List (String × DataW Unit)} {W : World} (h : laidMetH Tryz.prog l W) (hr : (l.filter fun x => x.1 == "internal/strconv.uint64pow10") = [("internal/strconv.uint64pow10", Lib.tabData .u64 Lib.pow10Tab)]) : Tab W :=
  Lib.tabIs_of_head (rest := []) g_tab (t := 196) (e := 161) (n := 20) (by kernel_rfl) (by kernel_rfl) (by kernel_rfl) (by kernel_rfl) (by kernel_rfl) (laid_one _ h hr (by kernel_rfl))
theorem star_err : "*" ++ "errors.errorString" = "*errors.errorString" := by decide
theorem row_err (u : TypeId) (h : Tryz.prog.typeName? 3 u = some "*errors.errorString") : u = 206 :=
  typeName_ptr_named (nm := "errors.errorString") (by rw [star_err]; kernel_rfl) (by kernel_rfl) (by decide) u (by rw [star_err]; exact h)
theorem err_cell {n : String} {text : List UInt8} {W : World} {g : Nat} (hg : Tryz.prog.globalNamed n = some g) (ht : (Tryz.prog.globals[g]?).map (·.type) = some 54)
    (h : laidMet Tryz.prog [(n, .iface "*errors.errorString" (.ptr (.agg [.lit (.string text)])))] W) : ∃ t p, W.cell? ⟨g, 0, none⟩ = some (.iface t p) := by
  obtain ⟨a, s, hv, _⟩ := laid_sentinel h hg ht Tryz.underlying54 row_err Tryz.underlying206 Tryz.underlying208 rfl rfl Tryz.underlying9 (by kernel_rfl) (by kernel_rfl)
  exact ⟨_, _, by simpa using World.var?_cell hg hv 0⟩
theorem err_of {l : List (String × DataW Unit)} {W : World} (h : laidMetH Tryz.prog l W) {t1 t2 : List UInt8} (h1 : (l.filter fun x => x.1 == "strconv.ErrSyntax") = [("strconv.ErrSyntax", .iface "*errors.errorString" (.ptr (.agg [.lit (.string t1)])))])
    (h2 : (l.filter fun x => x.1 == "strconv.ErrRange") = [("strconv.ErrRange", .iface "*errors.errorString" (.ptr (.agg [.lit (.string t2)])))]) : ErrOk W := by
  obtain ⟨a, p, e1⟩ := err_cell g_syn (by kernel_rfl) (laid_one _ h h1 rfl)
  obtain ⟨b, q, e2⟩ := err_cell g_rng (by kernel_rfl) (laid_one _ h h2 rfl)
  exact ⟨a, p, b, q, e1, e2⟩
end Go.Proofs.YtjfbcjmnjlehaaaGreatDoor
namespace Go.Proofs.YtjfbcjmnjlehaaaGreatDoor
open Go.RowKit
set_option linter.unusedVariables false
set_option linter.unusedSimpArgs false

theorem step_odd (d : Nat) (h : d < 4294967296) (h1 : d % 2 = 1) : bits .xor .u32 ((d : Int) / 2) 3988292384 = ((crcStep d : Nat) : Int) := by
  have e1 : (d : Int) / 2 = ((d / 2 : Nat) : Int) := by omega
  have e2 : (3988292384 : Int) = ((3988292384 : Nat) : Int) := rfl
  unfold crcStep
  rw [if_pos h1, e1, e2]
  exact u32_xor_nat _ _ (by omega) (by omega)
theorem step_even (d : Nat) (h1 : ¬ d % 2 = 1) : (d : Int) / 2 = ((crcStep d : Nat) : Int) := by
  unfold crcStep
  rw [if_neg h1, Nat.xor_zero]
  omega
set_option maxRecDepth 100000 in
set_option maxHeartbeats 2000000 in
theorem rf_sum (s : ByteArray) (w : World) (hs : s.size ≤ 1000000000) : Calls Tryz.prog 103 #[.string s] w fun e w' => e = .returned (.int .u32 (crcSum s.data.toList)) ∧ w = w' := by
  go_enter Tryz.func103, Tryz.ntmps103
  go_wp2_with fail
  go_loop [3, 4] (fun c i => ∃ k : Nat, k ≤ s.size ∧ i = .int .i64 k ∧ c = .int .u32 (crcF 4294967295 (s.data.toList.take k) : Nat)) (fun _ i => s.size - (intOf i).toNat)
  case atStart => exact ⟨0, Nat.zero_le _, rfl, rfl⟩
  case round =>
    obtain ⟨k, hk, rfl, rfl⟩ := hrel
    obtain ⟨c, hc⟩ : ∃ c, crcF 4294967295 (s.data.toList.take k) = c := ⟨_, rfl⟩
    have hcl : c < 4294967296 := by rw [← hc]; exact crcF_lt (by omega) _
    rw [hc]
    by_cases hlt : k < s.size
    · have HC := Lib.hid hc
      clear hc
      have hb := s[k].toNat_lt
      have hx : bits .xor .u32 (c : Int) (s[k].toNat : Int) = ((c ^^^ s[k].toNat : Nat) : Int) := u32_xor_nat _ _ hcl (by omega)
      have hd0 := xor_byte_lt hcl s[k]
      have hix := fun w => run_at s k hlt w
      obtain ⟨d0, hd⟩ : ∃ d, c ^^^ s[k].toNat = d := ⟨_, rfl⟩
      rw [hd] at hx hd0
      have HD := Lib.hid hd
      clear hd
      go_wp2_with fail
      go_loop [3, 5] (fun e j => ∃ m : Nat, m ≤ 8 ∧ j = .int .i64 m ∧ e = .int .u32 (crcN m d0 : Nat)) (fun _ j => 8 - (intOf j).toNat)
      case atStart => exact ⟨0, Nat.zero_le _, rfl, rfl⟩
      case round =>
        obtain ⟨m, hm, rfl, rfl⟩ := hrel
        have hml := crcN_lt hd0 m
        have hms := crcN_succ m d0
        obtain ⟨d, he⟩ : ∃ d, crcN m d0 = d := ⟨_, rfl⟩
        rw [he] at hml hms ⊢
        by_cases hlt8 : m < 8
        · have HE := Lib.hid hms
          clear he hms hx hix
          have hem : (d : Int).tmod 2 = (d : Int) % 2 := Int.tmod_eq_emod_of_nonneg (by omega)
          have hed : (d : Int).tdiv 2 = (d : Int) / 2 := Int.tdiv_eq_ediv_of_nonneg (by omega)
          by_cases hod : d % 2 = 1
          · have hq : ((d : Int) % 2 == 1) = true := by rw [beq_iff_eq]; omega
            have hst := step_odd d hml hod
            rw [← HE.out] at hst
            clear hod
            go_wp2_with fail
            refine ⟨⟨m + 1, by omega, by go_num, rfl⟩, by simp [intOf]; omega⟩
          · have hq : ((d : Int) % 2 == 1) = false := by rw [beq_eq_false_iff_ne]; omega
            have hst := step_even d hod
            rw [← HE.out] at hst
            have HST := Lib.hid hst
            clear hod hst
            go_wp2_with fail
            refine ⟨⟨m + 1, by omega, by go_num, by rw [← HST.out]⟩, by simp [intOf]; omega⟩
        · obtain rfl : m = 8 := by omega
          have hk1 : crcF 4294967295 (s.data.toList.take (k + 1)) = d := by
            have hlt' : k < s.data.toList.length := by simpa using hlt
            rw [List.take_succ_eq_append_getElem hlt', crcF_snoc, HC.out, ← he, ← HD.out]
            rfl
          have HK := Lib.hid hk1
          clear hk1 he hms hx hix
          go_wp2_with fail
          go_round
          case rel => exact ⟨k + 1, by omega, by go_num, by rw [HK.out]⟩
          case measure => simp [intOf]; omega
    · obtain rfl : k = s.size := by omega
      have hn : (4294967295 : Int) - (c : Int) = ((4294967295 - c : Nat) : Int) := by omega
      have he : crcSum s.data.toList = 4294967295 - c := by
        unfold crcSum
        rw [← hc, List.take_of_length_le (by simp)]
      have HE := Lib.hid he
      clear hc he
      go_wp2_with fail
      go_ret
      exact ⟨by rw [HE.out]; rfl, rfl⟩
set_option maxRecDepth 100000 in
set_option maxHeartbeats 2000000 in
theorem rf_put (s : ByteArray) (w : World) (hs : s.size ≤ 140737488355328) : Calls Tryz.prog 42 #[.string s] w fun e w' => e = .returned (.tuple #[.string (putV s).1, .int .i64 (putV s).2]) ∧ Chg (fun _ => False) w w' := by
  by_cases h : 65535 < s.size
  · have e : putV s = (⟨#[]⟩, 5) := by unfold putV; rw [if_pos h]
    rw [e]
    go_enter Tryz.func42, Tryz.ntmps42
    go_wp2_with fail
    go_ret2
    exact ⟨rfl, Chg.refl _ _⟩
  · have e : putV s = (fraBA s, 0) := by unfold putV; rw [if_neg h]
    rw [e]
    have hcl := crcSum_lt s.data.toList
    obtain ⟨c, hc⟩ : ∃ c, crcSum s.data.toList = c := ⟨_, rfl⟩
    have hsum := rf_sum s w (by omega)
    rw [hc] at hsum hcl
    have HS := Lib.hid hsum
    have HC := Lib.hid hc
    clear hsum hc e
    go_enter Tryz.func42, Tryz.ntmps42
    go_wp2_with fail
    refine HS.out.mono ?_
    rintro e w' ⟨rfl, rfl⟩
    obtain ⟨hd, hhd⟩ : ∃ hd : ByteArray, (⟨(fraHead s.size c).toArray⟩ : ByteArray) = hd := ⟨_, rfl⟩
    have hsz : hd.size = 8 := by rw [← hhd]; rfl
    have e3 : 255 - (s.size : Int) / 256 = ((255 - s.size / 256 : Nat) : Int) := by omega
    have e4 : 255 - (s.size : Int) % 256 = ((255 - s.size % 256 : Nat) : Int) := by omega
    have hce : #[Value.int .u8 ((s.size : Int) / 256), .int .u8 ((s.size : Int) % 256), .int .u8 (255 - (s.size : Int) / 256), .int .u8 (255 - (s.size : Int) % 256), .int .u8 ((c : Int) / 16777216), .int .u8 ((c : Int) / 65536 % 256), .int .u8 ((c : Int) / 256 % 256), .int .u8 ((c : Int) % 256)] = (byteCells hd).toArray := by
      rw [← hhd, ← fraCells_all s.size c (by omega) hcl, e3, e4]
      rfl
    have hcv : (convert 60 9 (.slice (some ⟨w.heap.size, 0, none⟩) 8 8)).run Tryz.prog (w.alloc (.cells #[Value.int .u8 ((s.size : Int) / 256), .int .u8 ((s.size : Int) % 256), .int .u8 (255 - (s.size : Int) / 256), .int .u8 (255 - (s.size : Int) % 256), .int .u8 ((c : Int) / 16777216), .int .u8 ((c : Int) / 65536 % 256), .int .u8 ((c : Int) / 256 % 256), .int .u8 ((c : Int) % 256)] 5)) = .ok (.string hd) (w.alloc (.cells #[Value.int .u8 ((s.size : Int) / 256), .int .u8 ((s.size : Int) % 256), .int .u8 (255 - (s.size : Int) / 256), .int .u8 (255 - (s.size : Int) % 256), .int .u8 ((c : Int) / 16777216), .int .u8 ((c : Int) / 65536 % 256), .int .u8 ((c : Int) / 256 % 256), .int .u8 ((c : Int) % 256)] 5)) := by
      rw [hce]
      exact run_arr_string hd hsz (Blk.new _ _ _)
    have HHD := Lib.hid hhd
    clear hhd e3 e4 hce
    go_wp2_with fail
    go_ret2
    refine ⟨?_, by ((repeat (first | exact Chg.refl _ _ | assumption | refine Chg.drewN ?_ _ | refine Chg.drew ?_ | refine Chg.alloc ?_ _ | refine Chg.setCell ?_ (by first | (simp; done) | (simp; omega) | (intro h; simp at h; omega)) _)))⟩
    have hfin : hd ++ s = fraBA s := by
      rw [← HHD.out]
      unfold fraBA fraB
      rw [HC.out]
      apply ByteArray.ext
      simp
    rw [← hfin]
    rfl
end Go.Proofs.YtjfbcjmnjlehaaaGreatDoor
