/-
  Versions in memory: tables, places, the document's tables as lists; and the small calls: good, over, ahead, has, files.
-/
import Derived.Test.YtahahginmgidjaaLst
import Derived.Test.YtahahginmgidjaaVerN
import Derived.WalkLawsBesides
namespace Go.Proofs.Ytahahginmgidjaa
open Go.RowKit
set_option linter.unusedVariables false
set_option linter.unusedSimpArgs false

def mrow (m : MetaV) : List Value := [.int .i64 m.file, .int .i64 m.size, .string m.lo, .string m.hi]
def prow (p : PlaceV) : List Value := [.int .i64 p.level, .int .i64 p.m.file, .int .i64 p.m.size, .string p.m.lo, .string p.m.hi]
/-- The program's tables; its places; the document's tables; numbers. -/
def metaC : Codec MetaV := ⟨mrow, 4, 46, 65, .agg #[.int .i64 0, .int .i64 0, .string ⟨#[]⟩, .string ⟨#[]⟩], 48⟩
def placeC : Codec PlaceV := ⟨prow, 5, 48, 26, .agg #[.int .i64 0, .int .i64 0, .int .i64 0, .string ⟨#[]⟩, .string ⟨#[]⟩], 56⟩
def docC : Codec PlaceV := ⟨prow, 5, 49, 29, .agg #[.int .i64 0, .int .i64 0, .int .i64 0, .string ⟨#[]⟩, .string ⟨#[]⟩], 56⟩
def i64C : Codec Int := ⟨fun x => [.int .i64 x], 1, 2, 23, .int .i64 0, 8⟩
theorem metaOk : metaC.Ok := ⟨fun _ => rfl, by decide, fun x v hv => by simp [metaC, mrow] at hv; rcases hv with rfl | rfl | rfl | rfl <;> rfl, Try.underlying65, by kernel_rfl, rfl, by decide⟩
theorem placeOk : placeC.Ok := ⟨fun _ => rfl, by decide, fun x v hv => by simp [placeC, prow] at hv; rcases hv with rfl | rfl | rfl | rfl | rfl <;> rfl, Try.underlying26, by kernel_rfl, rfl, by decide⟩
theorem docOk : docC.Ok := ⟨fun _ => rfl, by decide, fun x v hv => by simp [docC, prow] at hv; rcases hv with rfl | rfl | rfl | rfl | rfl <;> rfl, Try.underlying29, by kernel_rfl, rfl, by decide⟩
theorem i64Ok : i64C.Ok := ⟨fun _ => rfl, by decide, fun x v hv => by simp [i64C] at hv; subst hv; rfl, Try.underlying23, by kernel_rfl, rfl, by decide⟩

section
variable {w : World} {v : Value}
theorem meta_form {l : List MetaV} (h : Lst metaC w v l) : ∃ a cap, v = .slice a l.length cap ∧ l.length ≤ cap ∧ l.length ≤ 9223372036854775807 ∧ ∀ A x B, l = A ++ x :: B → ∃ b, a = some ⟨b, 0, none⟩ ∧ b < w.heap.size ∧ v.ownBlock = some b ∧
    w.cell? ⟨b, A.length * 4, none⟩ = some (.int .i64 x.file) ∧ w.cell? ⟨b, A.length * 4 + 1, none⟩ = some (.int .i64 x.size) ∧ w.cell? ⟨b, A.length * 4 + 2, none⟩ = some (.string x.lo) ∧ w.cell? ⟨b, A.length * 4 + 3, none⟩ = some (.string x.hi) := by
  obtain ⟨a, cap, e, h1, h2, h3⟩ := h.form metaOk
  refine ⟨a, cap, e, h1, h2, fun A x B hl => ?_⟩
  obtain ⟨b, eb, hb, ho, hc⟩ := h3 A x B hl
  exact ⟨b, eb, hb, ho, hc 0 _ rfl, hc 1 _ rfl, hc 2 _ rfl, hc 3 _ rfl⟩
theorem place_form {l : List PlaceV} (h : Lst placeC w v l) : ∃ a cap, v = .slice a l.length cap ∧ l.length ≤ cap ∧ l.length ≤ 9223372036854775807 ∧ ∀ A x B, l = A ++ x :: B → ∃ b, a = some ⟨b, 0, none⟩ ∧ b < w.heap.size ∧ v.ownBlock = some b ∧
    w.cell? ⟨b, A.length * 5, none⟩ = some (.int .i64 x.level) ∧ w.cell? ⟨b, A.length * 5 + 1, none⟩ = some (.int .i64 x.m.file) ∧ w.cell? ⟨b, A.length * 5 + 2, none⟩ = some (.int .i64 x.m.size) ∧ w.cell? ⟨b, A.length * 5 + 3, none⟩ = some (.string x.m.lo) ∧ w.cell? ⟨b, A.length * 5 + 4, none⟩ = some (.string x.m.hi) := by
  obtain ⟨a, cap, e, h1, h2, h3⟩ := h.form placeOk
  refine ⟨a, cap, e, h1, h2, fun A x B hl => ?_⟩
  obtain ⟨b, eb, hb, ho, hc⟩ := h3 A x B hl
  exact ⟨b, eb, hb, ho, hc 0 _ rfl, hc 1 _ rfl, hc 2 _ rfl, hc 3 _ rfl, hc 4 _ rfl⟩
theorem doc_form {l : List PlaceV} (h : Lst docC w v l) : ∃ a cap, v = .slice a l.length cap ∧ l.length ≤ cap ∧ l.length ≤ 9223372036854775807 ∧ ∀ A x B, l = A ++ x :: B → ∃ b, a = some ⟨b, 0, none⟩ ∧ b < w.heap.size ∧ v.ownBlock = some b ∧
    w.cell? ⟨b, A.length * 5, none⟩ = some (.int .i64 x.level) ∧ w.cell? ⟨b, A.length * 5 + 1, none⟩ = some (.int .i64 x.m.file) ∧ w.cell? ⟨b, A.length * 5 + 2, none⟩ = some (.int .i64 x.m.size) ∧ w.cell? ⟨b, A.length * 5 + 3, none⟩ = some (.string x.m.lo) ∧ w.cell? ⟨b, A.length * 5 + 4, none⟩ = some (.string x.m.hi) := by
  obtain ⟨a, cap, e, h1, h2, h3⟩ := h.form docOk
  refine ⟨a, cap, e, h1, h2, fun A x B hl => ?_⟩
  obtain ⟨b, eb, hb, ho, hc⟩ := h3 A x B hl
  exact ⟨b, eb, hb, ho, hc 0 _ rfl, hc 1 _ rfl, hc 2 _ rfl, hc 3 _ rfl, hc 4 _ rfl⟩
theorem i64_form {l : List Int} (h : Lst i64C w v l) : ∃ a cap, v = .slice a l.length cap ∧ l.length ≤ cap ∧ l.length ≤ 9223372036854775807 ∧ ∀ A x B, l = A ++ x :: B → ∃ b, a = some ⟨b, 0, none⟩ ∧ b < w.heap.size ∧ v.ownBlock = some b ∧
    w.cell? ⟨b, A.length, none⟩ = some (.int .i64 x) := by
  obtain ⟨a, cap, e, h1, h2, h3⟩ := h.form i64Ok
  refine ⟨a, cap, e, h1, h2, fun A x B hl => ?_⟩
  obtain ⟨b, eb, hb, ho, hc⟩ := h3 A x B hl
  have := hc 0 _ rfl
  exact ⟨b, eb, hb, ho, by simpa [i64C] using this⟩
end

/-! ### The small calls -/
instance (next : Int) (p : PlaceV) : Decidable (goodP next p) := by unfold goodP; exact inferInstance
def goodB (next : Int) (p : PlaceV) : Bool := decide (goodP next p)
set_option maxRecDepth 100000 in
set_option maxHeartbeats 1000000 in
theorem ver_good (p : PlaceV) (next : Int) (w : World) :
    Calls Try.prog 31 #[.agg #[.int .i64 p.level, .int .i64 p.m.file, .int .i64 p.m.size, .string p.m.lo, .string p.m.hi], .int .i64 next] w fun e w' => e = .returned (.bool (goodB next p)) ∧ Chg (fun _ => False) w w' := by
  obtain ⟨l, f, s, lo, hi⟩ := p
  simp only
  have hs := sl_leq lo hi
  unfold sl at hs
  by_cases h0 : 0 ≤ l
  · by_cases h1 : l < 4
    · by_cases h2 : 0 ≤ f
      · by_cases h3 : f < next
        · by_cases h4 : 0 ≤ s
          · cases h5 : Op.bytesLess hi.toList lo.toList with
            | false =>
              rw [h5] at hs
              have hr : goodB next ⟨l, f, s, lo, hi⟩ = true := decide_eq_true ⟨h0, h1, h2, h3, h4, h5⟩
              rw [hr]
              clear hr h5
              go_enter Try.func31, Try.ntmps31
              go_wp2
              go_ret
              exact ⟨rfl, by ((repeat (first | exact Chg.refl _ _ | assumption | refine Chg.drewN ?_ _ | refine Chg.drew ?_ | refine Chg.alloc ?_ _ | refine Chg.setCell ?_ (by first | (simp; done) | (simp; omega) | (intro h; simp at h; omega)) _)))⟩
            | true =>
              rw [h5] at hs
              have hr : goodB next ⟨l, f, s, lo, hi⟩ = false := decide_eq_false fun h => by have := h.2.2.2.2.2; unfold sl at this; simp only at this; rw [h5] at this; cases this
              rw [hr]
              clear hr h5
              go_enter Try.func31, Try.ntmps31
              go_wp2
              go_ret
              exact ⟨rfl, by ((repeat (first | exact Chg.refl _ _ | assumption | refine Chg.drewN ?_ _ | refine Chg.drew ?_ | refine Chg.alloc ?_ _ | refine Chg.setCell ?_ (by first | (simp; done) | (simp; omega) | (intro h; simp at h; omega)) _)))⟩
          · have hr : goodB next ⟨l, f, s, lo, hi⟩ = false := decide_eq_false fun h => h4 h.2.2.2.2.1
            rw [hr]
            clear hr hs
            have h4' := h4
            go_enter Try.func31, Try.ntmps31
            go_wp2
            go_ret
            exact ⟨rfl, by ((repeat (first | exact Chg.refl _ _ | assumption | refine Chg.drewN ?_ _ | refine Chg.drew ?_ | refine Chg.alloc ?_ _ | refine Chg.setCell ?_ (by first | (simp; done) | (simp; omega) | (intro h; simp at h; omega)) _)))⟩
        · have hr : goodB next ⟨l, f, s, lo, hi⟩ = false := decide_eq_false fun h => h3 h.2.2.2.1
          rw [hr]
          clear hr hs
          go_enter Try.func31, Try.ntmps31
          go_wp2
          go_ret
          exact ⟨rfl, by ((repeat (first | exact Chg.refl _ _ | assumption | refine Chg.drewN ?_ _ | refine Chg.drew ?_ | refine Chg.alloc ?_ _ | refine Chg.setCell ?_ (by first | (simp; done) | (simp; omega) | (intro h; simp at h; omega)) _)))⟩
      · have hr : goodB next ⟨l, f, s, lo, hi⟩ = false := decide_eq_false fun h => h2 h.2.2.1
        rw [hr]
        clear hr hs
        go_enter Try.func31, Try.ntmps31
        go_wp2
        go_ret
        exact ⟨rfl, by ((repeat (first | exact Chg.refl _ _ | assumption | refine Chg.drewN ?_ _ | refine Chg.drew ?_ | refine Chg.alloc ?_ _ | refine Chg.setCell ?_ (by first | (simp; done) | (simp; omega) | (intro h; simp at h; omega)) _)))⟩
    · have hr : goodB next ⟨l, f, s, lo, hi⟩ = false := decide_eq_false fun h => h1 h.2.1
      rw [hr]
      clear hr hs
      go_enter Try.func31, Try.ntmps31
      go_wp2
      go_ret
      exact ⟨rfl, by ((repeat (first | exact Chg.refl _ _ | assumption | refine Chg.drewN ?_ _ | refine Chg.drew ?_ | refine Chg.alloc ?_ _ | refine Chg.setCell ?_ (by first | (simp; done) | (simp; omega) | (intro h; simp at h; omega)) _)))⟩
  · have hr : goodB next ⟨l, f, s, lo, hi⟩ = false := decide_eq_false fun h => h0 h.1
    rw [hr]
    clear hr hs
    go_enter Try.func31, Try.ntmps31
    go_wp2
    go_ret
    exact ⟨rfl, by ((repeat (first | exact Chg.refl _ _ | assumption | refine Chg.drewN ?_ _ | refine Chg.drew ?_ | refine Chg.alloc ?_ _ | refine Chg.setCell ?_ (by first | (simp; done) | (simp; omega) | (intro h; simp at h; omega)) _)))⟩
end Go.Proofs.Ytahahginmgidjaa
