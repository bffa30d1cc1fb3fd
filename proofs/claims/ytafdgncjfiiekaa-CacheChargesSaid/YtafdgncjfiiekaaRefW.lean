/-
  The document's list of blocks: without.
-/
import Derived.Test.YtafdgncjfiiekaaRefC
import Derived.Deep.AppendLies
namespace Go.Proofs.Ytafdgncjfiiekaa
open Go.RowKit
set_option linter.unusedVariables false
set_option linter.unusedSimpArgs false

theorem info_rblock : (Try.prog.info? 95).map (fun i => (i.zero, i.size, i.bytes)) = some (some (.agg #[.int .i64 0, .int .i64 0, .string ⟨#[]⟩, .int .i64 0]), 4, 40) := by kernel_rfl
theorem blocksFlat_snoc (L : List Node) (x : Node) : blocksFlat (L ++ [x]) = blocksFlat L ++ [.int .i64 x.file, .int .i64 x.blk, .string x.data, .int .i64 x.pins] := by simp [blocksFlat]
/-- A list of blocks of the call's own is returned. -/
def RowPost (w : World) (L : List Node) (e : Ending) (w' : World) : Prop :=
  ∃ v, e = .returned v ∧ w'.ownsRow w.heap.size 95 4 v L.length (blocksFlat L) ∧ Chg (fun _ => False) w w'
theorem erase_same (P : List Node) (y : Node) : (P ++ [y]).eraseIdx P.length = P.eraseIdx P.length := by
  rw [List.eraseIdx_append_of_length_le (Nat.le_refl _)]
  rw [List.eraseIdx_of_length_le (Nat.le_refl _)]
  simp
theorem erase_other (P : List Node) (y : Node) (p : Nat) (h : P.length ≠ p) : (P ++ [y]).eraseIdx p = P.eraseIdx p ++ [y] := by
  by_cases hlt : p < P.length
  · rw [List.eraseIdx_append_of_lt_length hlt]
  · rw [List.eraseIdx_of_length_le (by simp; omega), List.eraseIdx_of_length_le (by omega)]

set_option maxRecDepth 100000 in
set_option maxHeartbeats 2000000 in
theorem ref_without (base : Nat) (v : Value) (L : List Node) (p : Nat) (hlen : L.length ≤ 17179869184) (w : World) (h : w.ownsRow base 95 4 v L.length (blocksFlat L)) :
    Calls Try.prog 63 #[v, .int .i64 p] w (RowPost w (L.eraseIdx p)) := by
  obtain ⟨a, cap, rfl, hn, hread⟩ := blocks_form h
  obtain ⟨i0, hi, hz0, hz1, hz2⟩ := info_parts info_rblock
  have HRD := Lib.hid hread
  clear h hread
  go_enter Try.func63, Try.ntmps63
  go_wp2_with fail
  go_loopw [5, 6] (fun out i wr => ∃ P R, L = P ++ R ∧ i = .int .i64 P.length ∧ wr.ownsRow w.heap.size 95 4 out (P.eraseIdx p).length (blocksFlat (P.eraseIdx p)) ∧ Chg (fun _ => False) w wr) (fun _ i _ => L.length - (intOf i).toNat)
  case atStart => exact ⟨[], L, rfl, rfl, ownsRow_none, Chg.refl _ _⟩
  case round =>
    obtain ⟨P, R, hL, rfl, hown, hc⟩ := hrel
    cases R with
    | nil =>
      have hll : ¬ ((P.length : Int) < (L.length : Int)) := by rw [hL]; simp
      have hfin : RowPost w (L.eraseIdx p) (.returned u5) wr := ⟨u5, rfl, by rw [hL, List.append_nil]; exact hown, hc⟩
      have HF := Lib.hid hfin
      clear hL hown hc hfin
      go_wp2_with fail
      go_ret
      exact HF.out
    | cons x M =>
      have hlt' : P.length < L.length := by rw [hL]; simp
      obtain ⟨bk, rfl, hb1, hb2, _, hcell⟩ := HRD.out (by omega)
      obtain ⟨q0, q1, q2, q3⟩ := blocksFlat_at P M x
      rw [← hL] at q0 q1 q2 q3
      have z0 := (hc.cell (p := ⟨bk, _, none⟩) hb2 (by simp)).trans (hcell _ _ q0)
      have z1 := (hc.cell (p := ⟨bk, _, none⟩) hb2 (by simp)).trans (hcell _ _ q1)
      have z2 := (hc.cell (p := ⟨bk, _, none⟩) hb2 (by simp)).trans (hcell _ _ q2)
      have z3 := (hc.cell (p := ⟨bk, _, none⟩) hb2 (by simp)).trans (hcell _ _ q3)
      have hlt : (P.length : Int) < (L.length : Int) := by omega
      have hge : (0 : Int) ≤ (P.length : Int) := by omega
      have hcs := hc.size
      have hlx : (P.eraseIdx p).length ≤ P.length := List.length_eraseIdx_le P p
      have HL := Lib.hid hL
      have HOWN := Lib.hid hown
      have HC := Lib.hid hc
      clear hL hown hc hcell q0 q1 q2 q3
      by_cases hp : P.length = p
      · subst hp
        go_wp2_with fail
        go_roundw
        case rel => exact ⟨P ++ [x], M, by rw [HL.out]; simp, by simp, by rw [erase_same]; exact HOWN.out, HC.out⟩
        case measure => simp [intOf]; omega
      · have hpi : ¬ ((P.length : Int) = (p : Int)) := by omega
        go_wp2_with (at_builtin; refine wpList_append_own _ rfl _ _ 63 rfl w.heap.size 95 i0 (.agg #[.int .i64 0, .int .i64 0, .string ⟨#[]⟩, .int .i64 0]) 4 40 Try.underlying63 hi hz0 hz1 hz2 rfl (by decide) _ _ _ rfl (HOWN.out.alloc _) ⟨wr.heap.size, 0, none⟩ 1 1 [.int .i64 x.file, .int .i64 x.blk, .string x.data, .int .i64 x.pins] rfl rfl ?c1 ?c2 ?c3 ?c4 ?c5 ?_)
        case c1 => exact World.news_of_block (cs := #[.int .i64 x.file, .int .i64 x.blk, .string x.data, .int .i64 x.pins]) (t := 95) (fr := (0, 0)) (heap_alloc_new wr _)
        case c2 => simp [Value.oneCell']
        case c3 => unfold maxLen; omega
        case c4 => omega
        case c5 => simp; omega
        intro v6 w6 hown6 hgr _
        have hc6 : Chg (fun _ => False) w w6 := (HC.out.alloc _).grown hgr (fun k hk hlt => absurd (ownsRow_block HOWN.out hk) (by omega))
        have hfinO : w6.ownsRow w.heap.size 95 4 v6 ((P ++ [x]).eraseIdx p).length (blocksFlat ((P ++ [x]).eraseIdx p)) := by
          rw [erase_other P x p hp, blocksFlat_snoc, List.length_append, List.length_singleton]
          exact hown6
        have HFO := Lib.hid hfinO
        clear hgr hown6 hfinO
        go_wp2_with fail
        go_roundw
        case rel => exact ⟨P ++ [x], M, by rw [HL.out]; simp, by simp, HFO.out, hc6⟩
        case measure => simp [intOf]; omega
end Go.Proofs.Ytafdgncjfiiekaa
