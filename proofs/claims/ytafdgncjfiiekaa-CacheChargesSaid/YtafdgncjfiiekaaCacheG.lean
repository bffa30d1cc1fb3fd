/-
  The cache: 'all' at Drop's closure.
-/
import Derived.Test.YtafdgncjfiiekaaCacheF
namespace Go.Proofs.Ytafdgncjfiiekaa
open Go.RowKit
set_option linter.unusedVariables false
set_option linter.unusedSimpArgs false

def ofFile (f : Int) (L : List Node) : List Node := L.filter fun x => x.file == f
def AllPost2 (w : World) (D : List Node) (e : Ending) (w' : World) : Prop :=
  ∃ v, e = .returned v ∧ HoldsNodes w' w.heap.size v D ∧ Chg (fun _ => False) w w'

set_option maxRecDepth 100000 in
set_option maxHeartbeats 2000000 in
theorem cache_all_drop (c g m : Nat) (L : List Node) (pf : Nat) (f : Int) (w : World) (h : RingAt w c g m L) (hlen : L.length ≤ 17179869184) (hpf : Blk w pf 2 #[.int .i64 f]) :
    Calls Try.prog 49 #[.pointer (some ⟨c, 0, none⟩), .func (.func 52) #[] #[.pointer (some ⟨pf, 0, none⟩)]] w (AllPost2 w (ofFile f L)) := by
  obtain ⟨i0, hi, hz0, hz1, hz2⟩ := info_parts info_pkept
  have H := Lib.hid h
  have HPF := Lib.hid hpf
  have c6 := h.blk.cell 6
  simp [cacheCells] at c6
  obtain ⟨hb, ho, hh, hf⟩ := headAd_form c L
  rw [hh] at c6
  simp only [ptr] at c6
  have HH := Lib.hid hh
  clear h hpf hh hf
  go_enter Try.func49, Try.ntmps49
  go_wp2_with fail
  go_loopg [5, 6] L.length (fun k out cur wr => ∃ A R D, L = A ++ R ∧ R.length = k ∧ cur = .pointer (some (headAd R (ring c))) ∧ HoldsNodes wr w.heap.size out D ∧ Chg (fun _ => False) w wr ∧ D ++ ofFile f R = ofFile f L ∧ D.length + R.length ≤ L.length)
  case atStart => exact ⟨[], L, [], rfl, rfl, by rw [HH.out], ownsRow_none, Chg.refl _ _, rfl, by simp⟩
  case round =>
    obtain ⟨A, R, D, hL, hk, rfl, hown, hc, hD, hDR⟩ := hrel
    clear c6
    have hw : RingAt wr c g m L := H.out.chg (S := fun _ => False) hc (by simp) (by simp)
    obtain ⟨j, hj, hjs⟩ := Option.map_eq_some_iff.1 info_kept
    have hj0 : j.size ≠ 0 := by omega
    cases R with
    | nil =>
      have hcmp := run_neq_ptr_same (P := Try.prog) wr ⟨c, 1, none⟩ Try.underlying83 hj
      simp only [ofFile, List.filter_nil, List.append_nil] at hD
      have hfin : AllPost2 w (ofFile f L) (.returned u5) wr := ⟨u5, rfl, by unfold ofFile; rw [← hD]; exact hown, hc⟩
      have HF := Lib.hid hfin
      clear hL hk hown hc hD hDR hw hj hfin H HH
      simp only [headAd, ring]
      go_wp2_with fail
      go_ret
      exact HF.out
    | cons y ys =>
      have hyL : y ∈ L := by rw [hL]; simp
      have hyc := hw.ne_ hyL
      rw [hL] at hw
      have hyb := hw.seg.at_
      have hcmp := run_neq_ptr_other (P := Try.prog) wr (a := ⟨y.id, 0, none⟩) (b := ⟨c, 1, none⟩) Try.underlying83 hj hj0 (by simp) hyb hw.blk
      have y0 := hyb.cell 0
      have y5 := hyb.cell 5
      simp [nodeCells] at y0 y5
      obtain ⟨nb, no, hnh, hnf⟩ := headAd_form c ys
      rw [hnh] at y5
      simp only [ptr] at y5
      have hpf0 := (HPF.out.chg hc (by simp)).cell 0
      simp at hpf0
      simp only [List.length_cons] at hDR hk
      have hof : ofFile f (y :: ys) = if (y.file == f) = true then y :: ofFile f ys else ofFile f ys := by simp [ofFile, List.filter_cons]
      have HL := Lib.hid hL
      have HOWN := Lib.hid hown
      have HC := Lib.hid hc
      have HD := Lib.hid hD
      have HNH := Lib.hid hnh
      have HOF := Lib.hid hof
      have hany := dropF_any y.id pf f y.file wr y0 hpf0
      simp only [headAd, nad]
      clear hL hown hc hD hw hj hnh hyb y0 hof hpf0
      by_cases hsel : (y.file == f) = true
      · have HSEL := Lib.hid hsel
        clear hsel
        go_wp2_with fail
        refine hany.mono ?_
        rw [HSEL.out]
        rintro e w5 ⟨rfl, m5, hw5⟩
        have hc5 : Chg (fun _ => False) wr w5 := by rw [← hw5]; ((repeat (first | exact Chg.refl _ _ | assumption | refine Chg.drewN ?_ _ | refine Chg.drew ?_ | refine Chg.alloc ?_ _ | refine Chg.setCell ?_ (by simp) _)))
        have hown5 := ownsRow_chg HOWN.out hc5 (by simp)
        have hc05 := HC.out.then hc5
        have hs5 := hc5.size
        have hs0 := HC.out.size
        clear hw5 y5 hany hcmp
        go_wp2_with (at_builtin; refine wpList_append_own _ rfl _ _ 91 rfl w.heap.size 83 i0 (.pointer none) 1 8 Try.underlying91 hi hz0 hz1 hz2 rfl (by decide) _ _ _ rfl (hown5.alloc _) ⟨w5.heap.size, 0, none⟩ 1 1 [.pointer (some ⟨y.id, 0, none⟩)] rfl rfl ?c1 ?c2 ?c3 ?c4 ?c5 ?_)
        case c1 => exact World.news_of_block (cs := #[.pointer (some ⟨y.id, 0, none⟩)]) (t := 83) (fr := (0, 0)) (heap_alloc_new w5 _)
        case c2 => simp [Value.oneCell']
        case c3 => unfold maxLen; omega
        case c4 => omega
        case c5 => simp; omega
        intro v6 w6 hown6 hgr _
        have hc6 : Chg (fun _ => False) w w6 := (hc05.alloc _).grown hgr (fun k hk hlt => absurd (ownsRow_block hown5 hk) (by omega))
        have hw6 : RingAt w6 c g m L := H.out.chg (S := fun _ => False) hc6 (by simp) (by simp)
        have y5' : w6.cell? ⟨y.id, 5, none⟩ = some (.pointer (some ⟨nb, no, none⟩)) := by
          rw [HL.out] at hw6
          have := hw6.seg.at_.cell 5
          simp [nodeCells] at this
          rw [HNH.out] at this
          exact this
        have hfinD : (D ++ [y]) ++ ofFile f ys = ofFile f L := by rw [← HD.out, HOF.out, if_pos HSEL.out]; simp
        have hfinA : L = (A ++ [y]) ++ ys := by rw [HL.out]; simp
        have hfinO : HoldsNodes w6 w.heap.size v6 (D ++ [y]) := by
          unfold HoldsNodes
          rw [List.map_append, List.length_append]
          exact hown6
        have F1 := Lib.hid hfinD
        have F3 := Lib.hid hfinA
        clear hfinD hfinA hgr hown6 hown5 hw6 hc5 hc05 hs5 hs0
        go_wp2_with fail
        go_roundg ys.length
        case measure => omega
        case rel => exact ⟨A ++ [y], ys, D ++ [y], F3.out, rfl, by rw [HNH.out], hfinO, hc6, F1.out, by simp; omega⟩
      · have hself : (y.file == f) = false := by simpa using hsel
        have HSEL := Lib.hid hself
        have F1 : Hid (D ++ ofFile f ys = ofFile f L) := by show _ = _; rw [← HD.out, HOF.out, if_neg hsel]
        have F3 : Hid (L = (A ++ [y]) ++ ys) := by show _ = _; rw [HL.out]; simp
        clear hsel hself
        go_wp2_with fail
        refine hany.mono ?_
        rw [HSEL.out]
        rintro e w5 ⟨rfl, m5, hw5⟩
        have hc5 : Chg (fun _ => False) wr w5 := by rw [← hw5]; ((repeat (first | exact Chg.refl _ _ | assumption | refine Chg.drewN ?_ _ | refine Chg.drew ?_ | refine Chg.alloc ?_ _ | refine Chg.setCell ?_ (by simp) _)))
        have hown5 : HoldsNodes w5 w.heap.size u5 D := ownsRow_chg HOWN.out hc5 (by simp)
        have hc05 := HC.out.then hc5
        have y5' : w5.cell? ⟨y.id, 5, none⟩ = some (.pointer (some ⟨nb, no, none⟩)) := by rw [← hw5]; exact y5
        clear hw5 y5 hany hcmp hc5
        go_wp2_with fail
        go_roundg ys.length
        case measure => omega
        case rel => exact ⟨A ++ [y], ys, D, F3.out, rfl, by rw [HNH.out], hown5, hc05, F1.out, by omega⟩
end Go.Proofs.Ytafdgncjfiiekaa
