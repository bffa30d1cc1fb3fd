/-
  The document's disk: all, Used, Trap.
-/
import Derived.Test.YtjfbcjmnjlehaaaGreatDoorZRdB
namespace Go.Proofs.YtjfbcjmnjlehaaaGreatDoor
open Go.RowKit
set_option linter.unusedVariables false
set_option linter.unusedSimpArgs false

/-- A list of names is returned: new, or the one that came in. -/
def RNmPost2 (w : World) (v : Value) (l : RNms) (e : Ending) (w' : World) : Prop :=
  ∃ v', e = .returned v' ∧ RNm w' v' l ∧ (∀ k, v'.ownBlock = some k → v.ownBlock = some k ∨ w.heap.size ≤ k) ∧ Chg (fun _ => False) w w'
theorem withR_len (l : RNms) (c : ByteArray × Int) : (withR l c).length ≤ l.length + 1 := wgo_len _ _ _
theorem allR_cons (l : RNms) (c : ByteArray × Int) (s : RNms) : allR l (c :: s) = allR (withR l c) s := rfl

set_option maxRecDepth 100000 in
set_option maxHeartbeats 4000000 in
theorem rd_all (l s : RNms) (v vs : Value) (hlen : l.length + s.length ≤ 1000000000) (w : World) (h : RNm w v l) (hs : RNm w vs s) :
    Calls Tryz.prog 110 #[v, .agg #[vs]] w (RNmPost2 w v (allR l s)) := by
  obtain ⟨sa, sc, rfl, hscap, hsn, hread⟩ := rnm_form hs
  obtain ⟨w1, hw1⟩ : ∃ w1, w1 = w.alloc (.cells #[.slice sa s.length sc] 140) := ⟨_, rfl⟩
  have hc1 : Chg (fun _ => False) w w1 := by rw [hw1]; ((repeat (first | exact Chg.refl _ _ | assumption | refine Chg.drewN ?_ _ | refine Chg.drew ?_ | refine Chg.alloc ?_ _ | refine Chg.setCell ?_ (by first | (simp; done) | (simp; omega) | (intro h; simp at h; omega)) _)))
  have hb1 : Blk w1 w.heap.size 140 #[.slice sa s.length sc] := by rw [hw1]; exact Blk.new w _ _
  have hsz1 : w1.heap.size = w.heap.size + 1 := by rw [hw1]; simp
  have HR := Lib.hid hread
  have HW1 := Lib.hid hw1
  have HB1 := Lib.hid hb1
  have HC1 := Lib.hid hc1
  have H := Lib.hid h
  clear hread h hs hw1 hb1 hc1
  go_enter Tryz.func110, Tryz.ntmps110
  go_wp2_with fail
  rw [← HW1.out]
  go_loopw [0, 5] (fun l0 i wr => ∃ A R L, s = A ++ R ∧ i = .int .i64 A.length ∧ RNm wr l0 L ∧ allR L R = allR l s ∧ L.length + R.length ≤ 1000000000 ∧ (∀ k, l0.ownBlock = some k → v.ownBlock = some k ∨ w.heap.size ≤ k) ∧ Chg (fun _ => False) w1 wr) (fun _ i _ => s.length - (intOf i).toNat)
  case atStart => exact ⟨[], s, l, rfl, rfl, RNm.same H.out HC1.out, rfl, hlen, fun k hk => .inl hk, Chg.refl _ _⟩
  case round =>
    obtain ⟨A, R, L, hL, rfl, hO, hgo, hll, hk, hc⟩ := hrel
    have hcs := hc.size
    have b1 := HB1.out.chg hc (by simp)
    have y0 := b1.cell 0
    simp at y0
    obtain ⟨oa, oc, rfl, _, hon, _⟩ := rnm_form hO
    have HO := Lib.hid hO
    have HG := Lib.hid hgo
    have HK := Lib.hid hk
    have HC := Lib.hid hc
    have hAl : A.length ≤ s.length := by rw [hL]; simp
    clear hO hgo hk hc b1
    cases R with
    | nil =>
      have hge : ¬ ((A.length : Int) < (s.length : Int)) := by rw [hL]; simp
      clear hL
      go_wp2_with fail
      go_ret
      refine ⟨_, rfl, ?_, HK.out, HC1.out.then HC.out⟩
      have := HG.out
      simp only [allR, List.foldl_nil] at this
      simp only [allR]
      rw [← this]; exact HO.out
    | cons q B =>
      obtain ⟨b, rfl, hb, _, z0, z1⟩ := HR.out A q B hL
      have hlt : (A.length : Int) < (s.length : Int) := by rw [hL]; simp; omega
      have hge : (0 : Int) ≤ (A.length : Int) := by omega
      have z0' := ((HC1.out.then HC.out).cell (p := ⟨b, A.length * 2, none⟩) hb (by simp)).trans z0
      have z1' := ((HC1.out.then HC.out).cell (p := ⟨b, A.length * 2 + 1, none⟩) hb (by simp)).trans z1
      have hL2 : s = (A ++ [q]) ++ B := by rw [hL]; simp
      have HL := Lib.hid hL2
      have hwl := withR_len L q
      have hll' : L.length + (B.length + 1) ≤ 1000000000 := by simpa using hll
      clear hL hL2 z0 z1 hll
      go_wp2_with fail
      refine (rd_with L q (.slice oa L.length oc) (by omega) wr HO.out).mono ?_
      rintro e w2 ⟨v2, rfl, hO2, hk2, hc2⟩
      have HO2 := Lib.hid hO2
      have HC2 := Lib.hid (HC.out.then hc2)
      have hk3 : ∀ k, v2.ownBlock = some k → v.ownBlock = some k ∨ w.heap.size ≤ k := fun k hk => .inr (by have := hk2 k hk; omega)
      have HK2 := Lib.hid hk3
      clear hO2 hc2 hk2 hk3
      go_wp2_with fail
      go_roundw
      case rel => exact ⟨A ++ [q], B, withR L q, HL.out, by simp, HO2.out, by rw [← HG.out]; rfl, by omega, HK2.out, HC2.out⟩
      case measure => simp [intOf]; omega

theorem rin_cells {w : World} {r : Nat} {D : DiskV} {y : RLay} {M : Nat → Prop} (h : RIn w r D y M) :
    w.cell? ⟨r, 0, none⟩ = some (.int .i64 D.room) ∧ w.cell? ⟨r, 1, none⟩ = some y.fv ∧ w.cell? ⟨r, 2, none⟩ = some y.nv ∧ w.cell? ⟨r, 3, none⟩ = some y.lv ∧ w.cell? ⟨r, 4, none⟩ = some y.qv ∧ w.cell? ⟨r, 5, none⟩ = some (.bool D.off) ∧
    w.cell? ⟨r, 6, none⟩ = some (.int .i64 D.cutL) ∧ w.cell? ⟨r, 7, none⟩ = some (.int .i64 y.cn) ∧ w.cell? ⟨r, 8, none⟩ = some y.cv ∧ w.cell? ⟨r, 9, none⟩ = some (.int .i64 D.fullL) :=
  ⟨h.blk.cell 0, h.blk.cell 1, h.blk.cell 2, h.blk.cell 3, h.blk.cell 4, h.blk.cell 5, h.blk.cell 6, h.blk.cell 7, h.blk.cell 8, h.blk.cell 9⟩
theorem rfl_form {w : World} {v : Value} {l : List FileV} (h : Own w 106 2 v l.length (flCells l)) : ∃ a cap, v = .slice a l.length cap ∧ l.length ≤ cap ∧ l.length ≤ 9223372036854775807 ∧ ∀ i, (hi : i < l.length) → ∃ b, a = some ⟨b, 0, none⟩ ∧ b < w.heap.size ∧ v.ownBlock = some b ∧
    w.cell? ⟨b, i * 2, none⟩ = some (.string l[i].data) ∧ w.cell? ⟨b, i * 2 + 1, none⟩ = some (.int .i64 l[i].lasts) := by
  obtain ⟨a, cap, rfl, h1, h2, h3⟩ := h.reads
  refine ⟨a, cap, rfl, h1, h2, fun i hi => ?_⟩
  obtain ⟨b, rfl, hb, ho, hc⟩ := h3 (by omega)
  obtain ⟨z0, z1⟩ := flCells_get l i hi
  exact ⟨b, rfl, hb, ho, hc _ _ z0, hc _ _ z1⟩
theorem ofNames_snoc {l : Names} {A B : RNms} {p : ByteArray × Int} (h : ofNames l = A ++ p :: B) : ∃ A' q B', l = A' ++ q :: B' ∧ A = ofNames A' ∧ p = (q.1, (q.2 : Int)) ∧ B = ofNames B' := by
  unfold ofNames at h
  obtain ⟨l1, l2, rfl, h1, h2⟩ := List.map_eq_append_iff.1 h
  obtain ⟨q, B', rfl, h3, h4⟩ := List.map_eq_cons_iff.1 h2
  exact ⟨l1, q, B', rfl, h1.symm, h3.symm, h4.symm⟩

set_option maxRecDepth 100000 in
set_option maxHeartbeats 4000000 in
theorem rd_used (r : Nat) (D : DiskV) (M : Nat → Prop) (w : World) (h : RAt w r D M) (hN : D.names.length ≤ 1000000) :
    Calls Tryz.prog 68 #[.pointer (some ⟨r, 0, none⟩)] w fun e w' => e = .returned (.int .i64 (usedD D)) ∧ ∃ m, w.drewN m = w' := by
  obtain ⟨hok, y, hin, _⟩ := h
  obtain ⟨_, c1, c2, _⟩ := rin_cells hin
  obtain ⟨na, nc, hnv, _, hnn, hnread⟩ := rnm_form hin.parts.names
  obtain ⟨fa, fc, hfv, _, hfn, hfread⟩ := rfl_form hin.parts.files
  rw [hnv] at c2
  rw [hfv] at c1
  have hln : (ofNames D.names).length = D.names.length := by simp [ofNames]
  have HNR := Lib.hid hnread
  have HFR := Lib.hid hfread
  have HOK := Lib.hid hok
  have HLN := Lib.hid hln
  rw [hln] at c2
  clear hin hnread hfread hok hnv hfv hln
  go_enter Tryz.func68, Tryz.ntmps68
  go_wp2_with fail
  go_loopw [3, 4] (fun n i wr => ∃ A R, D.names = A ++ R ∧ i = .int .i64 A.length ∧ (∃ m, n = .int .i64 m ∧ m + (R.map (sizeOfN D.files)).sum = usedD D ∧ 0 ≤ m ∧ m ≤ 1048576 * A.length) ∧ ∃ j, w.drewN j = wr) (fun _ i _ => D.names.length - (intOf i).toNat)
  case atStart => exact ⟨[], D.names, rfl, rfl, ⟨0, rfl, by simp [usedD], by omega, by simp⟩, 0, rfl⟩
  case round =>
    obtain ⟨A, R, hL, rfl, ⟨m, rfl, hm, hm0, hm1⟩, j, rfl⟩ := hrel
    have c1' : (w.drewN j).cell? ⟨r, 1, none⟩ = some (.slice fa D.files.length fc) := c1
    have c2' : (w.drewN j).cell? ⟨r, 2, none⟩ = some (.slice na D.names.length nc) := c2
    cases R with
    | nil =>
      have hge : ¬ ((A.length : Int) < (D.names.length : Int)) := by rw [hL]; simp
      have hf : m = usedD D := by simpa using hm
      have HF := Lib.hid hf
      clear hL hm hf
      go_wp2_with fail
      go_ret
      exact ⟨by rw [← HF.out]; rfl, j, rfl⟩
    | cons q B =>
      have hnm : ofNames D.names = ofNames A ++ (q.1, (q.2 : Int)) :: ofNames B := by rw [hL]; simp [ofNames]
      obtain ⟨b, rfl, hb, _, z0, z1⟩ := HNR.out (ofNames A) (q.1, (q.2 : Int)) (ofNames B) hnm
      have hlA : (ofNames A).length = A.length := by simp [ofNames]
      rw [hlA] at z0 z1
      have hq : q.2 < D.files.length := HOK.out.names.lt q (by rw [hL]; simp)
      obtain ⟨b2, rfl, hb2, _, f0, f1⟩ := HFR.out q.2 hq
      have hsz := (HOK.out.file D.files[q.2] (List.getElem_mem hq)).2
      have hlt : (A.length : Int) < (D.names.length : Int) := by rw [hL]; simp; omega
      have hle : A.length ≤ 1000000 := by omega
      have hge : (0 : Int) ≤ (A.length : Int) := by omega
      have hq1 : (q.2 : Int) < (D.files.length : Int) := by omega
      have hq0 : (0 : Int) ≤ (q.2 : Int) := by omega
      have hs : m + (D.files[q.2].data.size : Int) + (B.map (sizeOfN D.files)).sum = usedD D := by
        rw [← hm]
        simp only [List.map_cons, List.sum_cons, sizeOfN, List.getElem?_eq_getElem hq]
        omega
      have hL2 : D.names = (A ++ [q]) ++ B := by rw [hL]; simp
      have HL := Lib.hid hL2
      have HS := Lib.hid hs
      generalize D.files[q.2].data = dt at *
      generalize q.2 = qi at *
      have z1' : (w.drewN j).cell? ⟨b, A.length * 2 + 1, none⟩ = some (.int .i64 (qi : Int)) := z1
      have f0' : (w.drewN j).cell? ⟨b2, qi * 2, none⟩ = some (.string dt) := f0
      clear hL hL2 hm hs hnm z0 hlA f1
      go_wp2_with fail
      go_quiet (fail)
      go_wp2_with fail
      go_roundw
      case rel => exact ⟨A ++ [q], B, HL.out, by simp, ⟨_, rfl, HS.out, by omega, by simp; omega⟩, _, rfl⟩
      case measure => simp [intOf]; omega
end Go.Proofs.YtjfbcjmnjlehaaaGreatDoor
