/-
  The walk of DiskPlays.
-/
import Derived.Test.YtlcggocfkanblaaDiskBd
import Derived.Test.YtlcggocfkanblaaDiskBe
import Derived.Test.YtlcggocfkanblaaDiskT
import Derived.Test.YtlcggocfkanblaaFrameJ
namespace Go.Proofs.Ytlcggocfkanblaa
open Go.RowKit
set_option linter.unusedVariables false
set_option linter.unusedSimpArgs false

theorem both_new {w0 w1 w2 : World} {d : Nat} {D : DiskV} (h : DState w0 w1 d D) (hr : RAt w2 w1.heap.size D (fun k => k = w1.heap.size)) (hc : Chg (fun _ => False) w1 w2) : Both w0 w2 d w1.heap.size (fun _ _ => False) D D (fun _ => False) := by
  obtain ⟨ids, M, ha, hM, hc0⟩ := h
  have hs := hc0.size
  refine ⟨ids, M, _, ha.same hc, hr, fun k hk e => ?_, fun k hk => ?_, hc0.then hc, fun k hk => hk.elim, fun k o hk => hk.elim⟩
  · have := ha.lt k hk
    omega
  · rcases hk with e | e
    · exact hM k e
    · omega

set_option maxRecDepth 100000 in
set_option maxHeartbeats 8000000 in
theorem disk_plays (room : Int) (A : Option Addr) (n c : Nat) (Do N M : Nat → Int) (S T : Nat → ByteArray) (bv : Nat → Value) (L : Nat → List Int) (hroom : room ≤ 9223372036854775807) (hN : ∀ i, In64 (N i)) (hM : ∀ i, In64 (M i)) (hS : ∀ i, (S i).size ≤ 140737488355328) (hT : ∀ i, (T i).size ≤ 140737488355328) (w : World) (hn : n ≤ 9223372036854775807) (hnc : n ≤ c)
    (hL : ∀ i, i < n → RInts w (bv i) (L i) ∧ (L i).length ≤ 17592186044416) (hs : Rec w w.heap.size 6 A n (dRow Do N M S T bv)) :
    Calls Try.prog 7 #[.int .i64 room, .slice A n c] w fun e w' => e = .returned (.bool true) ∧ Chg (fun _ => False) w w' := by
  have HR := Lib.hid hs
  have HN := Lib.hid hN
  have HM := Lib.hid hM
  have HS := Lib.hid hS
  have HT := Lib.hid hT
  have HL := Lib.hid hL
  clear hs hN hM hS hT hL
  go_enter Try.func7, Try.ntmps7
  go_wp2_with fail
  refine (st_new room hroom w).mono ?_
  rintro e w1 ⟨rfl, h1⟩
  have H1 := Lib.hid h1
  clear h1
  go_wp2_with fail
  refine (rd_new room hroom w1).mono ?_
  rintro e w2 ⟨rfl, hr2, hc2, _⟩
  have hb2 := both_new H1.out hr2 hc2
  have HB2 := Lib.hid hb2
  clear hr2 hc2 hb2 H1
  generalize w1.heap.size = r at *
  generalize w.heap.size + 2 = d at *
  go_wp2_with fail
  refine (disk_wakes w2).mono ?_
  rintro e w3 ⟨rfl, hc3⟩
  have HB3 := Lib.hid (HB2.out.same hc3)
  clear hc3
  go_wp2_with fail
  refine (ld_same w d r _ 0 (by omega) (bsm_start room) w3 HB3.out).mono ?_
  rintro e w4 ⟨rfl, hc4⟩
  have HB4 := Lib.hid (HB3.out.same hc4)
  clear hc4
  go_wp2_with fail
  all_goals (try simp only [show max (100 : Int) 0 = 100 from rfl])
  all_goals obtain ⟨q, hq1, hq2, hq3⟩ : ∃ q : Nat, q ≤ n ∧ q ≤ 100 ∧ (q = n ∨ q = 100) := ⟨min n 100, by omega, by omega, by omega⟩
  all_goals
    go_loopw [27] (fun i wr => ∃ (k : Nat) (D : DiskV), k ≤ q ∧ i = .int .i64 k ∧ BSm k D ∧ Both w wr d r (fun _ _ => False) D D (fun _ => False)) (fun i _ => q - (intOf i).toNat)
    case atStart => exact ⟨0, _, by omega, rfl, bsm_start room, HB4.out⟩
    case round =>
      obtain ⟨k, D, hk, rfl, hbs, hB⟩ := hrel
      have hcc := hB.frame
      by_cases hlt : k < q
      · obtain ⟨b, off, rfl, hbB, hcell⟩ := HR.out (by omega)
        have x0 := (hcc.cell (p := ⟨b, _, none⟩) hbB (by simp)).trans (hcell k (by omega) 0 (by omega))
        have x1 := (hcc.cell (p := ⟨b, _, none⟩) hbB (by simp)).trans (hcell k (by omega) 1 (by omega))
        have x2 := (hcc.cell (p := ⟨b, _, none⟩) hbB (by simp)).trans (hcell k (by omega) 2 (by omega))
        have x3 := (hcc.cell (p := ⟨b, _, none⟩) hbB (by simp)).trans (hcell k (by omega) 3 (by omega))
        have x4 := (hcc.cell (p := ⟨b, _, none⟩) hbB (by simp)).trans (hcell k (by omega) 4 (by omega))
        have x5 := (hcc.cell (p := ⟨b, _, none⟩) hbB (by simp)).trans (hcell k (by omega) 5 (by omega))
        simp only [Nat.add_zero, dRow] at x0 x1 x2 x3 x4 x5
        have hk0 : (0 : Int) ≤ (k : Int) := by omega
        have hk1 : (k : Int) < (n : Int) := by omega
        have hk2 : (k : Int) < 100 := by omega
        obtain ⟨hr1, hl1⟩ := HL.out k (by omega)
        obtain ⟨sa, sc, hbv, _⟩ := hr1
        have hri := fun W (hW : Chg (fun _ => False) w W) => (HL.out k (by omega)).1.keep hW
        rw [hbv] at x5 hri
        have hact := fun W (hW : Chg (fun _ => False) wr W) => ld_act w d r D k (by omega) (Do k) (S k) (T k) (N k) (M k) _ (L k) (HS.out k) (HT.out k) (HN.out k) (HM.out k) hl1 hbs W (hB.same hW) (hri W (hcc.then hW))
        have HACT := Lib.hid hact
        have HQ := Lib.hid hq3
        clear hcell HR hB hcc hbs hq3 hri hact hbv
        go_wp2_with fail
        refine (HACT.out _ (by ((repeat (first | exact Chg.refl _ _ | assumption | refine Chg.drewN ?_ _ | refine Chg.drew ?_ | refine Chg.alloc ?_ _ | refine Chg.setCell ?_ (by simp) _))))).mono ?_
        rintro e w5 ⟨rfl, D', hbs', hB'⟩
        have HB5 := Lib.hid hB'
        have HBS5 := Lib.hid hbs'
        clear hB' hbs' x0 x1 x2 x3 x4 x5
        go_wp2_with fail
        refine (ld_same w d r D' (k + 1) (by omega) HBS5.out w5 HB5.out).mono ?_
        rintro e w6 ⟨rfl, hc6⟩
        have HB6 := Lib.hid (HB5.out.same hc6)
        clear hc6
        go_wp2_with fail
        exact ⟨⟨k + 1, D', by omega, by go_num, HBS5.out, HB6.out⟩, by simp [intOf]; omega⟩
      · have HC := Lib.hid hcc
        clear hcc hB hbs HR
        have hge : ¬ ((k : Int) < (q : Int)) := by omega
        have hge3 : ¬ ((k : Int) < min (n : Int) 100) := by omega
        clear hq3
        go_wp2_with fail
        go_ret
        exact ⟨rfl, HC.out⟩
end Go.Proofs.Ytlcggocfkanblaa
