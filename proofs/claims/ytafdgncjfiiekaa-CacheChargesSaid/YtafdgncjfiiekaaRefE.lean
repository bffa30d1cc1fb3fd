/-
  The document's list of blocks: Drop, Shrink.
-/
import Derived.Test.YtafdgncjfiiekaaRefD
namespace Go.Proofs.Ytafdgncjfiiekaa
open Go.RowKit
set_option linter.unusedVariables false
set_option linter.unusedSimpArgs false

theorem rc_len {w : World} {r rb : Nat} {v : Value} {L : List Node} {B : Bud} (h : RCacheAt w r rb 0 v L B) : ∃ a cap, v = .slice a L.length cap ∧ L.length ≤ 9223372036854775807 ∧ w.cell? ⟨r, 0, none⟩ = some v ∧ w.cell? ⟨r, 1, none⟩ = some (.pointer (some ⟨rb, 0, none⟩)) := by
  obtain ⟨a, cap, e, hn, _⟩ := blocks_form h.own
  exact ⟨a, cap, e, hn, h.blk.cell 0, h.blk.cell 1⟩
theorem rc_read {w : World} {r rb : Nat} {v : Value} {L A M : List Node} {x : Node} {B : Bud} (h : RCacheAt w r rb 0 v L B) (hL : L = A ++ x :: M) : ∃ bk cap, v = .slice (some ⟨bk, 0, none⟩) L.length cap ∧ bk < w.heap.size ∧ (A.length : Int) < (L.length : Int) ∧
    w.cell? ⟨bk, A.length * 4, none⟩ = some (.int .i64 x.file) ∧ w.cell? ⟨bk, A.length * 4 + 1, none⟩ = some (.int .i64 x.blk) ∧ w.cell? ⟨bk, A.length * 4 + 2, none⟩ = some (.string x.data) ∧ w.cell? ⟨bk, A.length * 4 + 3, none⟩ = some (.int .i64 x.pins) := by
  obtain ⟨a, cap, rfl, hn, hread⟩ := blocks_form h.own
  have hpos : A.length < L.length := by rw [hL]; simp
  obtain ⟨bk, rfl, hb1, hb2, _, hcell⟩ := hread (by omega)
  obtain ⟨q0, q1, q2, q3⟩ := blocksFlat_at A M x
  rw [← hL] at q0 q1 q2 q3
  exact ⟨bk, cap, rfl, hb2, by omega, hcell _ _ q0, hcell _ _ q1, hcell _ _ q2, hcell _ _ q3⟩
def LSmall (L : List Node) : Prop := L.length ≤ 17179869184 ∧ ∀ x ∈ L, x.data.size ≤ 140737488355328
theorem LSmall.sub {L M : List Node} (h : LSmall L) (hs : M.Sublist L) : LSmall M := ⟨Nat.le_trans hs.length_le h.1, fun x hx => h.2 x (hs.subset hx)⟩

/-- What a Drop leaves. -/
def notFile (f : Int) (L : List Node) : List Node := L.filter fun x => !(x.file == f)

set_option maxRecDepth 100000 in
set_option maxHeartbeats 2000000 in
theorem ref_drop (r rb : Nat) (v : Value) (L : List Node) (B : Bud) (f : Int) (hsm : LSmall L) (w : World) (h : RCacheAt w r rb 0 v L B) :
    Calls Try.prog 55 #[.pointer (some ⟨r, 0, none⟩), .int .i64 f] w fun e w' => e = .returned (.tuple #[]) ∧ RStep r rb v w w' (notFile f L) (bdrop B (ofFile f L)) := by
  have H := Lib.hid h
  have HS := Lib.hid hsm
  clear h hsm
  go_enter Try.func55, Try.ntmps55
  go_wp2_with fail
  go_loopg [4] L.length (fun k i wr => ∃ A R Bk, i = .int .i64 A.length ∧ R.length = k ∧ RStep r rb v w wr (A ++ R) Bk ∧ A ++ notFile f R = notFile f L ∧ bdrop Bk (ofFile f R) = bdrop B (ofFile f L) ∧ LSmall (A ++ R))
  case atStart => exact ⟨[], L, B, rfl, rfl, RStep.same H.out (Chg.refl _ _), rfl, rfl, HS.out⟩
  case round =>
    obtain ⟨A, R, Bk, rfl, hk, ⟨v1, hR, hc1, hv1⟩, hL1, hB1, hsm1⟩ := hrel
    cases R with
    | nil =>
      simp only [List.append_nil] at hR hsm1
      obtain ⟨a, cap, rfl, hn, c0, c1⟩ := rc_len hR
      have hfin : RStep r rb v w wr (notFile f L) (bdrop B (ofFile f L)) := by
        rw [← hL1, ← hB1]
        simp only [notFile, ofFile, List.filter_nil, List.append_nil]
        exact ⟨_, hR, hc1, hv1⟩
      have HF := Lib.hid hfin
      have hge : ¬ ((A.length : Int) < (A.length : Int)) := by omega
      clear hk hR hc1 hv1 hL1 hB1 hsm1 hfin H HS
      go_wp2_with fail
      first | go_end0 | refine bodyPost_ret (results_none rfl _ _ _) rfl ?_
      exact ⟨rfl, HF.out⟩
    | cons x M =>
      obtain ⟨N, hN⟩ : ∃ N, N = A ++ x :: M := ⟨_, rfl⟩
      rw [← hN] at hR hsm1
      obtain ⟨bk, cap, rfl, hbk, hlt, z0, z1, z2, z3⟩ := rc_read hR hN
      obtain ⟨_, _, _, hn, c0, c1⟩ := rc_len hR
      have hge : (0 : Int) ≤ (A.length : Int) := by omega
      have hstep := fun W hW => ref_drop1 r rb _ N A M x Bk hN hsm1.1 (hsm1.2 x (by rw [hN]; simp)) W (hR.same (w' := W) hW)
      have hs1 : LSmall (A ++ M) := hsm1.sub (by rw [hN]; simp)
      have hs2 : LSmall ((A ++ [x]) ++ M) := by rw [List.append_assoc, List.singleton_append, ← hN]; exact hsm1
      have HST := Lib.hid hstep
      have HR := Lib.hid hR
      have HC1 := Lib.hid hc1
      have HV1 := Lib.hid hv1
      have HL1 := Lib.hid hL1
      have HB1 := Lib.hid hB1
      have HS1 := Lib.hid hs1
      have HS2 := Lib.hid hs2
      have HN := Lib.hid hN
      have HK := Lib.hid hk
      clear hstep hR hc1 hv1 hL1 hB1 hs1 hs2 hN hk hsm1
      by_cases hf : x.file = f
      · go_wp2_with fail
        refine (HST.out _ (Chg.refl _ _)).mono ?_
        rintro e w2 ⟨rfl, hst⟩
        have hst2 := RStep.trans HC1.out HV1.out hst
        have HST2 := Lib.hid hst2
        have HF := Lib.hid hf
        clear hst hst2 hf z0 z1 z2 z3 c0 c1
        go_wp2_with fail
        go_roundg M.length
        case measure => have := HK.out; simp at this; omega
        case rel =>
          refine ⟨A, M, _, rfl, rfl, HST2.out, ?_, ?_, HS1.out⟩
          · rw [← HL1.out]; simp [notFile, HF.out]
          · rw [← HB1.out]; simp [ofFile, HF.out, bdrop]
      · go_wp2_with fail
        go_roundg M.length
        case measure => have := HK.out; simp at this; omega
        case rel =>
          refine ⟨A ++ [x], M, Bk, by simp, rfl, ⟨_, by rw [List.append_assoc, List.singleton_append, ← HN.out]; exact HR.out, HC1.out, HV1.out⟩, ?_, ?_, HS2.out⟩
          · rw [← HL1.out]; simp [notFile, hf]
          · rw [← HB1.out]; simp [ofFile, hf]

/-- What the unpinned blocks cost. -/
def unp : List Node → Int
  | [] => 0
  | x :: xs => (if x.pins = 0 then costOf x else 0) + unp xs
theorem unp_le (L : List Node) : 0 ≤ unp L ∧ unp L ≤ total L := by
  induction L with
  | nil => simp [unp, total]
  | cons x xs ih => have := costOf_pos x; simp only [unp, total]; split <;> omega
theorem unp_app (L M : List Node) : unp (L ++ M) = unp L + unp M := by
  induction L with
  | nil => simp [unp]
  | cons x xs ih => simp [unp, ih]; omega
/-- The loop of Shrink: what is left, and the budget. -/
def rsh (n : Int) : Bud → List Node → List Node × Bud
  | B, [] => ([], B)
  | B, x :: xs => if n ≤ B.l - B.u then (x :: xs, B) else if x.pins = 0 then rsh n (B.release 1 (costOf x)).2 xs else (x :: (rsh n B xs).1, (rsh n B xs).2)
theorem rsh_done {n : Int} {B : Bud} (R : List Node) (h : n ≤ B.l - B.u) : rsh n B R = (R, B) := by
  cases R with
  | nil => rfl
  | cons x xs => rw [rsh, if_pos h]

set_option maxRecDepth 100000 in
set_option maxHeartbeats 4000000 in
theorem ref_shrink_no (r rb : Nat) (v : Value) (L : List Node) (B : Bud) (n : Int) (hsm : LSmall L) (htot : total L ≤ 1099511627776) (w : World) (h : RCacheAt w r rb 0 v L B) (hno : B.l - B.u + unp L < n) :
    Calls Try.prog 56 #[.pointer (some ⟨r, 0, none⟩), .int .i64 n] w fun e w' => e = .returned (.bool false) ∧ ∃ m, w.drewN m = w' := by
  have hul := unp_le L
  have hg := h.bud.good
  have l0 := hg.l0; have l1 := hg.l1; have uh := hg.uh; have hl := hg.hl
  have u0 : 0 ≤ B.u := by have := hg.u0; have := hg.a0; have := hg.b0; have := hg.c0; have := hg.d0; omega
  obtain ⟨a, cap, rfl, hn, c0, c1⟩ := rc_len h
  have H := Lib.hid h
  have HS := Lib.hid hsm
  clear h hsm hg
  go_enter Try.func56, Try.ntmps56
  go_wp2_with fail
  refine (ref_left r rb 0 _ L B w H.out).mono ?_
  rintro e w1 ⟨rfl, m1, rfl⟩
  go_wp2_with fail
  go_loop [5, 6] (fun t i => ∃ A R, L = A ++ R ∧ i = .int .i64 A.length ∧ ∃ m, t = .int .i64 m ∧ m + unp R = B.l - B.u + unp L ∧ 0 ≤ m) (fun _ i => L.length - (intOf i).toNat)
  case atStart => exact ⟨[], L, rfl, rfl, _, rfl, rfl, by omega⟩
  case round =>
    obtain ⟨A, R, hL, rfl, m, rfl, hm, hm0⟩ := hrel
    cases R with
    | nil =>
      have hge : ¬ ((A.length : Int) < (L.length : Int)) := by rw [hL]; simp
      have hmn : m < n := by simp [unp] at hm; omega
      clear hL hm
      go_wp2_with fail
      go_ret
      exact ⟨rfl, m1, rfl⟩
    | cons x M =>
      obtain ⟨bk, cap', e, hbk, hlt, z0, z1, z2, z3⟩ := rc_read H.out hL
      injection e with e1 e2 e3
      subst e1 e3
      have hx := HS.out.2 x (by rw [hL]; simp)
      have hu := unp_le M
      have hge : (0 : Int) ≤ (A.length : Int) := by omega
      have hcx := costOf_pos x
      have hmx : m + unp (x :: M) = B.l - B.u + unp L := hm
      simp only [unp] at hmx
      have hL2 : L = (A ++ [x]) ++ M := by rw [hL]; simp
      have hle : A.length ≤ L.length := by omega
      have HL := Lib.hid hL2
      clear hL hm hL2 e2
      by_cases hp : x.pins = 0
      · rw [if_pos hp] at hmx
        have hb1 : m + (64 + (x.data.size : Int)) + unp M = B.l - B.u + unp L := by unfold costOf at hmx; omega
        have HB1 := Lib.hid hb1
        have hb2 : m + (64 + (x.data.size : Int)) ≤ 9223372036854775807 := by omega
        rw [hp] at z3
        clear hmx hp hb1 hcx
        go_wp2_with fail
        refine (ref_cost x.data (by omega) _).mono ?_
        rintro e w' ⟨rfl, rfl⟩
        go_wp2_with fail
        go_round
        case rel => exact ⟨A ++ [x], M, HL.out, by simp, _, rfl, HB1.out, by omega⟩
        case measure => simp [intOf]; omega
      · rw [if_neg hp] at hmx
        have hb1 : m + unp M = B.l - B.u + unp L := by omega
        have HB1 := Lib.hid hb1
        clear hmx hb1 hcx
        go_wp2_with fail
        go_round
        case rel => exact ⟨A ++ [x], M, HL.out, by simp, _, rfl, HB1.out, by omega⟩
        case measure => simp [intOf]; omega
end Go.Proofs.Ytafdgncjfiiekaa
