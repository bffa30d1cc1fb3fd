/-
  The cache: raw contracts of its small functions.
-/
import Derived.Test.YtafdgncjfiiekaaBudL
import Derived.Test.YtafdgncjfiiekaaMap
namespace Go.Proofs.Ytafdgncjfiiekaa
open Go.RowKit
set_option linter.unusedVariables false
set_option linter.unusedSimpArgs false

theorem cache_cost (s : ByteArray) (hs : s.size ≤ 9223372036854775000) (w : World) :
    Calls Try.prog 31 #[.string s] w fun e w' => e = .returned (.int .i64 (64 + (s.size : Int))) ∧ w = w' := by
  go_enter Try.func31, Try.ntmps31
  go_wp2
  go_ret
  exact ⟨rfl, rfl⟩

theorem cache_works (c g : Nat) (w : World) (h : w.cell? ⟨c, 0, none⟩ = some (.pointer (some ⟨g, 0, none⟩))) :
    Calls Try.prog 45 #[.pointer (some ⟨c, 0, none⟩)] w fun e w' => e = .returned (.bool true) ∧ w = w' := by
  go_enter Try.func45, Try.ntmps45
  go_wp2
  go_ret
  exact ⟨rfl, rfl⟩

theorem cache_out_raw (xb pb po qb qo : Nat) (vp vq : Value) (w : World) (h4 : w.cell? ⟨xb, 4, none⟩ = some (.pointer (some ⟨pb, po, none⟩))) (h5 : w.cell? ⟨xb, 5, none⟩ = some (.pointer (some ⟨qb, qo, none⟩)))
    (hp : w.cell? ⟨pb, po + 5, none⟩ = some vp) (hq : w.cell? ⟨qb, qo + 4, none⟩ = some vq) (fp : w.frozen? ⟨pb, po + 5, none⟩ = false) (fq : w.frozen? ⟨qb, qo + 4, none⟩ = false) (hne : ¬ (pb = qb ∧ po + 5 = qo + 4)) :
    Calls Try.prog 48 #[.pointer (some ⟨xb, 0, none⟩)] w fun e w' => e = .returned (.tuple #[]) ∧
      ∃ n, ((w.setCell ⟨pb, po + 5, none⟩ (.pointer (some ⟨qb, qo, none⟩))).setCell ⟨qb, qo + 4, none⟩ (.pointer (some ⟨pb, po, none⟩))).drewN n = w' := by
  have hq2 : (w.setCell ⟨pb, po + 5, none⟩ (.pointer (some ⟨qb, qo, none⟩))).cell? ⟨qb, qo + 4, none⟩ = some vq := by
    rw [World.cell?_setCell_other]
    · exact hq
    · simp; omega
  clear hne
  go_enter Try.func48, Try.ntmps48
  go_wp2
  go_region
  all_goals (first | go_end0 | refine bodyPost_ret (results_none rfl _ _ _) rfl ?_)
  all_goals exact ⟨rfl, 1, rfl⟩

/-- last: the block xb stands behind ⟨eb, eo⟩, which was the last one. -/
theorem cache_last_raw (c xb eb eo : Nat) (v4 v5 vn : Value) (w : World) (he : w.cell? ⟨c, 5, none⟩ = some (.pointer (some ⟨eb, eo, none⟩)))
    (h4 : w.cell? ⟨xb, 4, none⟩ = some v4) (h5 : w.cell? ⟨xb, 5, none⟩ = some v5) (f4 : w.frozen? ⟨xb, 4, none⟩ = false) (f5 : w.frozen? ⟨xb, 5, none⟩ = false)
    (hn : w.cell? ⟨eb, eo + 5, none⟩ = some vn) (fn : w.frozen? ⟨eb, eo + 5, none⟩ = false) (fc : w.frozen? ⟨c, 5, none⟩ = false) (hxc : xb ≠ c) (hxe : xb ≠ eb) (hec : ¬ (eb = c ∧ eo = 0)) :
    Calls Try.prog 46 #[.pointer (some ⟨c, 0, none⟩), .pointer (some ⟨xb, 0, none⟩)] w fun e w' => e = .returned (.tuple #[]) ∧
      ∃ n, ((((w.setCell ⟨xb, 4, none⟩ (.pointer (some ⟨eb, eo, none⟩))).setCell ⟨xb, 5, none⟩ (.pointer (some ⟨c, 1, none⟩))).setCell ⟨eb, eo + 5, none⟩ (.pointer (some ⟨xb, 0, none⟩))).setCell ⟨c, 5, none⟩ (.pointer (some ⟨xb, 0, none⟩))).drewN n = w' := by
  go_enter Try.func46, Try.ntmps46
  go_wp2
  go_region
  go_wp2
  all_goals (first | go_end0 | refine bodyPost_ret (results_none rfl _ _ _) rfl ?_)
  all_goals exact ⟨rfl, 1, rfl⟩
end Go.Proofs.Ytafdgncjfiiekaa
