/-
  What is synced lasts: the law's walk (printed by gen_las.py).
-/
import Derived.Test.YtlcggocfkanblaaDiskY
namespace Go.Proofs.Ytlcggocfkanblaa
open Go.RowKit
set_option linter.unusedVariables false
set_option linter.unusedSimpArgs false

set_option maxRecDepth 100000 in
set_option maxHeartbeats 20000000 in
theorem disk_lasts (E N : ByteArray) (c1 : Int) (bytes : List Int) (bv : Value) (hE : E.size ≤ maxLen) (hN : N.size ≤ maxLen) (w0 : World)
    (h1 : -9223372036854775808 ≤ c1 ∧ c1 ≤ 9223372036854775807) (hbl : bytes.length ≤ 17592186044416) (hbs : RInts w0 bv bytes) :
    Calls Try.prog 4 #[.string E, .string N, .int .i64 c1, bv] w0 fun e w' => e = .returned (.bool true) ∧ Chg (fun _ => False) w0 w' := by
  have hold := fun W => RInts.old (W := W) hbs
  obtain ⟨ba, bc, rfl, _, _, _⟩ := hbs
  have hb : ∀ wk d D, DState w0 wk d D → ∀ W, Chg (fun k => w0.heap.size ≤ k) wk W → RInts W (.slice ba bytes.length bc) bytes := fun wk d D h W hW =>
    hold W (((h.frame.mono fun k _ e => e.elim) : Chg (fun k => w0.heap.size ≤ k) w0 wk).trans hW fun k _ e => e)
  have HB := Lib.hid hb
  clear hold hb
  go_enter Try.func4, Try.ntmps4
  go_wp2_with fail
  refine (st_new rnRoom (by decide) _).mono ?_
  rintro e w1 ⟨rfl, h1'⟩
  have H1 := Lib.hid h1'
  clear h1'
  go_wp2_with fail
  go_region
  go_wp2_with fail
  · obtain ⟨E', hE'e⟩ : ∃ E', E' = E.extract 0 (min (E.size : Int) 1000).toNat := ⟨_, rfl⟩
    obtain ⟨N', hN'e⟩ : ∃ N', N' = N.extract 0 (min (N.size : Int) 1000).toNat := ⟨_, rfl⟩
    have hE' : E'.size ≤ 1000 := by rw [hE'e]; first | omega | (rw [ByteArray.size_extract]; omega)
    have hN' : N'.size ≤ 1000 := by rw [hN'e]; first | omega | (rw [ByteArray.size_extract]; omega)
    rw [← hE'e, ← hN'e]
    clear hE'e hN'e
    refine (disk_wakes _).mono ?_
    rintro e w2 ⟨rfl, hc2⟩
    have H2 := Lib.hid (H1.out.same ((show Chg (fun _ => False) w1 w1.drew by ((repeat (first | exact Chg.refl _ _ | assumption | refine Chg.drewN ?_ _ | refine Chg.drew ?_ | refine Chg.alloc ?_ _ | refine Chg.setCell ?_ (by simp) _)))).then hc2))
    clear hc2
    go_wp2_with fail
    refine (c_create0 E' hE' w0 _ _ H2.out).mono ?_
    rintro e w3 ⟨rfl, h3⟩
    have H3 := Lib.hid h3
    clear h3
    go_wp2_with fail
    refine (c_append0 E' hE' w0 _ _ H3.out).mono ?_
    rintro e w4 ⟨rfl, h4⟩
    have H4 := Lib.hid h4
    clear h4
    go_wp2_with fail
    refine (c_sync0 E' hE' w0 _ _ H4.out).mono ?_
    rintro e w5 ⟨rfl, h5⟩
    have H5 := Lib.hid h5
    clear h5
    go_wp2_with fail
    refine (c_syncdir0 E' hE' w0 _ _ H5.out).mono ?_
    rintro e w6 ⟨rfl, h6⟩
    have H6 := Lib.hid h6
    clear h6
    go_wp2_with fail
    refine (l_append E' N' hE' hN' w0 _ _ H6.out).mono ?_
    rintro e w7 ⟨rfl, h7⟩
    have H7 := Lib.hid h7
    clear h7
    go_wp2_with fail
    refine (l_create E' N' hE' hN' w0 _ _ H7.out).mono ?_
    rintro e w8 ⟨rfl, h8⟩
    have H8 := Lib.hid h8
    clear h8
    go_wp2_with fail
    refine (st_crash w0 _ _ c1 bytes _ (by simp [lsZ5]) h1.1 h1.2 _ H8.out (HB.out _ _ _ H8.out)).mono ?_
    rintro e w9 ⟨rfl, h9⟩
    have H9 := Lib.hid h9
    clear h9
    go_wp2_with fail
    refine (l_read E' N' hE' hN' w0 _ c1 bytes _ H9.out).mono ?_
    rintro e w10 ⟨k, hk, rfl, h10⟩
    have H10 := Lib.hid h10
    clear h10
    go_wp2_with fail
    refine (l_list E' N' hE' hN' w0 _ c1 bytes _ H10.out).mono ?_
    rintro e w11 ⟨g, cap, ⟨rfl, hcap, z0⟩ | ⟨rfl, hcap, z0, z1⟩, hc11⟩
    all_goals
      have HC := Lib.hid hc11
      clear hc11
      have hsA : (E' ++ N').size = E'.size + N'.size := ByteArray.size_append
      have hsS : ((E' ++ N').extract 0 (E'.size + k)).size = E'.size + k := by rw [ByteArray.size_extract]; omega
      have hq1 : (sA.toList == [97]) = true := by decide +kernel
      have hq2 : (sB.toList == [98]) = true := by decide +kernel
      obtain ⟨S, hS⟩ : ∃ S, S = (E' ++ N').extract 0 (E'.size + k) := ⟨_, rfl⟩
      have hS2 : ((S.toList == ((E' ++ N').extract 0 S.size).toList)) = true := by rw [hS, hsS]; simp
      have hS3 : S.toList = ((E' ++ N').extract 0 (E'.size + k)).toList := by rw [hS]
      rw [← hS] at hsS ⊢
      clear hS
      go_wp2_with fail
      all_goals first | (exfalso; omega) | (exfalso; exact absurd hS3 (by assumption)) | (go_ret; exact ⟨rfl, HC.out⟩)
end Go.Proofs.Ytlcggocfkanblaa
