/-
  A world in which the library's listed tables and errors are laid; what a row's list gives: the table of powers of ten. Plain lemmas; no condition.
-/
import Derived.Test.YtjloddlkleileaaGreatDoorFrame
import Derived.Test.YtjloddlkleileaaGreatDoorFeeB
import Derived.Test.YtjloddlkleileaaGreatDoorCards
import Derived.Test.YtjloddlkleileaaGreatDoorTie
import Derived.ProofKit
import Derived.OpenShut
import Derived.Deep.DeepHandedRow
import Derived.Lib.LaidTab
import Derived.LaidSub
import Derived.MakeChecks
import Derived.Stop.LaidErr
namespace Go.Proofs.YtjloddlkleileaaGreatDoor
open Go.ChangeShapes Go.WideShapes Go.ChangeAt Go.RowKit Go.Deep
set_option linter.unusedVariables false
set_option linter.unusedSimpArgs false

/-- The numbers of a table, as cells. -/
def litV : DataW Unit → List Value
  | .lit (.int k n) => [.int k n]
  | _ => []
def tabV : DataW Unit → List Value
  | .agg l => l.flatMap fun x => match x with
    | .agg m => m.flatMap litV
    | x => litV x
  | _ => []
def setV (l : List Value) (o : Obj) : Obj := match o with
  | .cells _ t frozen => Obj.cells l.toArray t frozen
  | o => o
abbrev synS : ByteArray := { data := #[105, 110, 118, 97, 108, 105, 100, 32, 115, 121, 110, 116, 97, 120] }
abbrev rngS : ByteArray := { data := #[118, 97, 108, 117, 101, 32, 111, 117, 116, 32, 111, 102, 32, 114, 97, 110, 103, 101] }
noncomputable def low : Nat := (World.holding Tryz.prog default ⟨#[], #[], []⟩).heap.size
/-- A world for the witness: the settled one, two errors more, the listed variables as their initialisers lay them. -/
noncomputable def laidWorld (os : Os) : World :=
  { World.holding Tryz.prog os ⟨#[.cells #[.string synS] 572, .cells #[.string rngS] 572], #[], []⟩ with heap := (((((((World.holding Tryz.prog os ⟨#[.cells #[.string synS] 572, .cells #[.string rngS] 572], #[], []⟩).heap.modify 1 (setV (tabV Rows.laid_internal_strconv_uint64pow10))).modify 4 (setV (tabV Rows.laid_unicode_utf8_first))).modify 5 (setV (tabV Rows.laid_unicode_utf8_acceptRanges))).modify 6 (setV (tabV Rows.laid_math_bits_deBruijn32tab))).modify 7 (setV (tabV Rows.laid_math_bits_deBruijn64tab))).modify 2 (setV [.iface 570 (.pointer (some ⟨low, 0, none⟩))])).modify 3 (setV [.iface 570 (.pointer (some ⟨low + 1, 0, none⟩))]) }
theorem g_tab : Tryz.prog.globalNamed "internal/strconv.uint64pow10" = some 1 := by kernel_rfl
theorem g_syn : Tryz.prog.globalNamed "strconv.ErrSyntax" = some 2 := by kernel_rfl
theorem g_rng : Tryz.prog.globalNamed "strconv.ErrRange" = some 3 := by kernel_rfl
/-- From a row's list, the one entry of a name. -/
theorem laid_one {l : List (String × DataW Unit)} {W : World} (n : String) (h : laidMetH Tryz.prog l W) {r : List (String × DataW Unit)} (hr : (l.filter fun x => x.1 == n) = r) (hh : (r.all fun x => x.2.handleName?.isNone) = true) : laidMet Tryz.prog r W := by
  have h1 := h.filter fun x => x.1 == n
  rw [hr, MakeChecks.laidMetH_plain _ _ _ hh] at h1
  exact h1
theorem tab_of {l : List (String × DataW Unit)} {W : World} (h : laidMetH Tryz.prog l W) (hr : (l.filter fun x => x.1 == "internal/strconv.uint64pow10") = [("internal/strconv.uint64pow10", Lib.tabData .u64 Lib.pow10Tab)]) : Tab W :=
  Lib.tabIs_of_head (rest := []) g_tab (t := 467) (e := 291) (n := 20) (by kernel_rfl) (by kernel_rfl) (by kernel_rfl) (by kernel_rfl) (by kernel_rfl) (laid_one _ h hr (by kernel_rfl))
theorem star_err : "*" ++ "errors.errorString" = "*errors.errorString" := by decide
theorem row_err (u : TypeId) (h : Tryz.prog.typeName? 3 u = some "*errors.errorString") : u = 570 :=
  typeName_ptr_named (nm := "errors.errorString") (by rw [star_err]; kernel_rfl) (by kernel_rfl) (by decide) u (by rw [star_err]; exact h)
theorem err_cell {n : String} {text : List UInt8} {W : World} {g : Nat} (hg : Tryz.prog.globalNamed n = some g) (ht : (Tryz.prog.globals[g]?).map (·.type) = some 120)
    (h : laidMet Tryz.prog [(n, .iface "*errors.errorString" (.ptr (.agg [.lit (.string text)])))] W) : ∃ t p, W.cell? ⟨g, 0, none⟩ = some (.iface t p) := by
  obtain ⟨a, s, hv, _⟩ := laid_sentinel h hg ht Tryz.underlying120 row_err Tryz.underlying570 Tryz.underlying572 rfl rfl Tryz.underlying9 (by kernel_rfl) (by kernel_rfl)
  exact ⟨_, _, by simpa using World.var?_cell hg hv 0⟩
theorem err_of {l : List (String × DataW Unit)} {W : World} (h : laidMetH Tryz.prog l W) {t1 t2 : List UInt8} (h1 : (l.filter fun x => x.1 == "strconv.ErrSyntax") = [("strconv.ErrSyntax", .iface "*errors.errorString" (.ptr (.agg [.lit (.string t1)])))])
    (h2 : (l.filter fun x => x.1 == "strconv.ErrRange") = [("strconv.ErrRange", .iface "*errors.errorString" (.ptr (.agg [.lit (.string t2)])))]) : ErrOk W := by
  obtain ⟨a, p, e1⟩ := err_cell g_syn (by kernel_rfl) (laid_one _ h h1 rfl)
  obtain ⟨b, q, e2⟩ := err_cell g_rng (by kernel_rfl) (laid_one _ h h2 rfl)
  exact ⟨a, p, b, q, e1, e2⟩
end Go.Proofs.YtjloddlkleileaaGreatDoor
