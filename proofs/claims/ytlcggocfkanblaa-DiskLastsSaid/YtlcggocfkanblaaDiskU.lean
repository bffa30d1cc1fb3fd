/-
  A rename over another file: the law's walk.
-/
import Derived.Test.YtlcggocfkanblaaDiskP
import Derived.WalkSmall
namespace Go.Proofs.Ytlcggocfkanblaa
open Go.RowKit
set_option linter.unusedVariables false
set_option linter.unusedSimpArgs false
set_option linter.unusedSectionVars false

theorem RInts.old {w W : World} {v : Value} {l : List Int} (h : RInts w v l) (hc : Chg (fun k => w.heap.size ≤ k) w W) : RInts W v l := by
  obtain ⟨a, c, hv, hl, hb, hr⟩ := h
  refine ⟨a, c, hv, hl, hb, fun h0 => ?_⟩
  obtain ⟨b, off, ha, hx⟩ := hr h0
  refine ⟨b, off, ha, fun i x hi => ?_⟩
  have := hx i x hi
  have hlt : b < w.heap.size := cell_lt this
  exact (hc.cell (p := ⟨b, off + i, none⟩) hlt (by show ¬ w.heap.size ≤ b; omega)).trans this
/-- What a call of the chain leaves: it is done, or the disk is off and safe. -/
def GoesAt (E N : ByteArray) (w0 : World) (d : Nat) (Y : Int → Int → List Int → DiskV) (e : Ending) (w' : World) : Prop :=
  ∃ r D, e = .returned (.int .i64 r) ∧ DState w0 w' d D ∧ ((r = 0 ∧ ∃ l c b, D = Y l c b) ∨ (r ≠ 0 ∧ Safe E N D))
theorem goes_at {E N : ByteArray} {w0 w' : World} {d : Nat} {Y : Int → Int → List Int → DiskV} {r : Int × DiskV} {e : Ending} (hg : Goes E N r Y) (h : e = .returned (.int .i64 r.1) ∧ DState w0 w' d r.2) : GoesAt E N w0 d Y e w' :=
  ⟨r.1, r.2, h.1, h.2, hg⟩
theorem small_one {D : DiskV} (h1 : D.queue.length ≤ 2) (h2 : D.files.length ≤ 2) (h3 : D.names.length ≤ 2) : DSmall D := ⟨by omega, by omega, by omega⟩
section
variable (E N : ByteArray) (hE : E.size ≤ 1000) (hN : N.size ≤ 1000) (w0 : World) (d : Nat)
include hE hN
theorem c_create (l c : Int) (b : List Int) (w : World) (h : DState w0 w d (rnY0 E l c b)) : Calls Try.prog 10 #[.pointer (some ⟨d, 0, none⟩), .string sT] w (GoesAt E N w0 d (rnY1 E)) :=
  (st_create w0 d _ sT (by decide) (small_one (by simp [rnY0]) (by simp [rnY0]) (by simp [rnY0])) w h).mono fun e w' => goes_at (r_create E N l c b)
theorem c_append (l c : Int) (b : List Int) (w : World) (h : DState w0 w d (rnY1 E l c b)) : Calls Try.prog 11 #[.pointer (some ⟨d, 0, none⟩), .string sT, .string N] w (GoesAt E N w0 d (rnY2 E N)) :=
  (st_append w0 d _ sT (by decide) (small_one (by simp [rnY1]) (by simp [rnY1]) (by simp [rnY1])) w h N (by omega)).mono fun e w' => goes_at (r_append E N l c b hE hN)
theorem c_sync (l c : Int) (b : List Int) (w : World) (h : DState w0 w d (rnY2 E N l c b)) : Calls Try.prog 12 #[.pointer (some ⟨d, 0, none⟩), .string sT] w (GoesAt E N w0 d (rnY3 E N)) :=
  (st_sync w0 d _ sT (by decide) (small_one (by simp [rnY2]) (by simp [rnY2]) (by simp [rnY2])) w h).mono fun e w' => goes_at (r_sync E N l c b)
theorem c_rename (l c : Int) (b : List Int) (w : World) (h : DState w0 w d (rnY3 E N l c b)) : Calls Try.prog 15 #[.pointer (some ⟨d, 0, none⟩), .string sT, .string sA] w (GoesAt E N w0 d (rnY4 E N)) :=
  (st_rename w0 d _ sT (by decide) (small_one (by simp [rnY3]) (by simp [rnY3]) (by simp [rnY3])) w h sA (by decide)).mono fun e w' => goes_at (r_rename E N l c b)
theorem c_syncdir (l c : Int) (b : List Int) (w : World) (h : DState w0 w d (rnY4 E N l c b)) : Calls Try.prog 13 #[.pointer (some ⟨d, 0, none⟩)] w (GoesAt E N w0 d (rnY5 E N)) :=
  (st_syncdir w0 d _ (small_one (by simp [rnY4]) (by simp [rnY4]) (by simp [rnY4])) w h).mono fun e w' => goes_at (r_syncdir E N l c b)
theorem c_read (n : Int) (bs : List Int) (D : DiskV) (hs : Safe E N D) (w : World) (h : DState w0 w d (crashD D n bs)) : Calls Try.prog 17 #[.pointer (some ⟨d, 0, none⟩), .string sA] w fun e w' =>
    ∃ s, e = .returned (.tuple #[.string s, .int .i64 0]) ∧ (s = E ∨ s = N) ∧ Chg (fun _ => False) w0 w' := by
  refine (st_read w0 d _ sA (by decide) w h).mono fun e w' ⟨he, hd⟩ => ?_
  rcases hs.read n bs with hr | hr
  · exact ⟨E, by rw [he, hr], .inl rfl, hd.frame⟩
  · exact ⟨N, by rw [he, hr], .inr rfl, hd.frame⟩
theorem c_read5 (n : Int) (bs : List Int) (l c : Int) (b : List Int) (w : World) (h : DState w0 w d (crashD (rnY5 E N l c b) n bs)) : Calls Try.prog 17 #[.pointer (some ⟨d, 0, none⟩), .string sA] w fun e w' =>
    e = .returned (.tuple #[.string N, .int .i64 0]) ∧ Chg (fun _ => False) w0 w' := by
  refine (st_read w0 d _ sA (by decide) w h).mono fun e w' ⟨he, hd⟩ => ?_
  exact ⟨by rw [he, r_read], hd.frame⟩
end
section
variable (E : ByteArray) (hE : E.size ≤ 1000) (w0 : World) (d : Nat)
include hE
theorem c_create0 (w : World) (h : DState w0 w d (startD rnRoom)) : Calls Try.prog 10 #[.pointer (some ⟨d, 0, none⟩), .string sA] w fun e w' => e = .returned (.int .i64 0) ∧ DState w0 w' d rnZ1 := by
  have := st_create w0 d _ sA (by decide) (small_one (by decide) (by decide) (by decide)) w h
  rwa [z_create] at this
theorem c_append0 (w : World) (h : DState w0 w d rnZ1) : Calls Try.prog 11 #[.pointer (some ⟨d, 0, none⟩), .string sA, .string E] w fun e w' => e = .returned (.int .i64 0) ∧ DState w0 w' d (rnZ2 E) := by
  have := st_append w0 d _ sA (by decide) (small_one (by decide) (by decide) (by decide)) w h E (by omega)
  rwa [z_append E hE] at this
theorem c_sync0 (w : World) (h : DState w0 w d (rnZ2 E)) : Calls Try.prog 12 #[.pointer (some ⟨d, 0, none⟩), .string sA] w fun e w' => e = .returned (.int .i64 0) ∧ DState w0 w' d (rnZ3 E) := by
  have := st_sync w0 d _ sA (by decide) (small_one (by simp [rnZ2]) (by simp [rnZ2]) (by simp [rnZ2])) w h
  rwa [z_sync] at this
theorem c_syncdir0 (w : World) (h : DState w0 w d (rnZ3 E)) : Calls Try.prog 13 #[.pointer (some ⟨d, 0, none⟩)] w fun e w' => e = .returned (.int .i64 0) ∧ DState w0 w' d (rnY0 E 0 0 []) := by
  have := st_syncdir w0 d _ (small_one (by simp [rnZ3]) (by simp [rnZ3]) (by simp [rnZ3])) w h
  rwa [z_syncdir] at this
theorem c_cut (n c1 : Int) (bytes : List Int) (bv : Value) (hl : bytes.length ≤ 17592186044416) (hn : n ≤ 9223372036854775807) (hn1 : -9223372036854775808 ≤ c1) (hn2 : c1 ≤ 9223372036854775807) (w : World) (h : DState w0 w d (rnY0 E 0 0 [])) (hbs : RInts w bv bytes) :
    Calls Try.prog 14 #[.pointer (some ⟨d, 0, none⟩), .int .i64 n, .int .i64 c1, bv] w fun e w' => e = .returned (.tuple #[]) ∧ ∃ l, DState w0 w' d (rnY0 E l c1 bytes) :=
  (st_cut w0 d _ n c1 bytes bv hl hn hn1 hn2 w h hbs).mono fun e w' ⟨he, hd⟩ => ⟨he, _, hd⟩
end
set_option maxRecDepth 100000 in
set_option maxHeartbeats 20000000 in
theorem disk_renames (E N : ByteArray) (c0 c1 : Int) (bytes : List Int) (bv : Value) (hE : E.size ≤ maxLen) (hN : N.size ≤ maxLen) (w : World)
    (h0 : -9223372036854775808 ≤ c0 ∧ c0 ≤ 9223372036854775807) (h1 : -9223372036854775808 ≤ c1 ∧ c1 ≤ 9223372036854775807) (hbl : bytes.length ≤ 17592186044416)
    (hbs : RInts w bv bytes) :
    Calls Try.prog 3 #[.string E, .string N, .agg #[.int .i64 c0, .int .i64 c1], bv] w fun e w' => e = .returned (.bool true) ∧ Chg (fun _ => False) w w' := by
  have hold := fun W => RInts.old (W := W) hbs
  obtain ⟨ba, bc, rfl, _, _, _⟩ := hbs
  have HO := Lib.hid hold
  clear hold
  go_enter Try.func3, Try.ntmps3
  go_wp2_with fail
  refine (st_new rnRoom (by decide) _).mono ?_
  rintro e w1 ⟨rfl, h1⟩
  obtain ⟨w0, hw0⟩ : ∃ w0, w0 = w.alloc (.cells #[.int .i64 c0, .int .i64 c1] 22) := ⟨_, rfl⟩
  rw [← hw0] at h1
  have hsz : w0.heap.size = w.heap.size + 1 := by rw [hw0]; simp
  have hcw : Chg (fun _ => False) w w0 := by rw [hw0]; ((repeat (first | exact Chg.refl _ _ | assumption | refine Chg.drewN ?_ _ | refine Chg.drew ?_ | refine Chg.alloc ?_ _ | refine Chg.setCell ?_ (by simp) _)))
  have hz0 : w0.cell? ⟨w.heap.size, 0, none⟩ = some (.int .i64 c0) := by rw [hw0]; exact Go.cell_two_new w _ _ _ 0 _ rfl
  have hz1 : w0.cell? ⟨w.heap.size, 1, none⟩ = some (.int .i64 c1) := by rw [hw0]; exact Go.cell_two_new w _ _ _ 1 _ rfl
  have hzz : ∀ W d D, DState w0 W d D → W.cell? ⟨w.heap.size, 0, none⟩ = some (.int .i64 c0) ∧ W.cell? ⟨w.heap.size, 1, none⟩ = some (.int .i64 c1) := fun W d D h =>
    ⟨(h.frame.cell (p := ⟨w.heap.size, 0, none⟩) (by simp; omega) (by simp)).trans hz0, (h.frame.cell (p := ⟨w.heap.size, 1, none⟩) (by simp; omega) (by simp)).trans hz1⟩
  have hde : w0.heap.size + 2 = w.heap.size + 1 + 2 := by rw [hsz]
  rw [hde] at h1
  clear hde
  have hb : ∀ wk d D, DState w0 wk d D → ∀ W, Chg (fun k => w0.heap.size ≤ k) wk W → RInts W (.slice ba bytes.length bc) bytes := fun wk d D h W hW =>
    HO.out W ((((hcw.then h.frame).mono fun k _ e => e.elim) : Chg (fun k => w.heap.size ≤ k) w wk).trans hW fun k _ e => by omega)
  have HB := Lib.hid hb
  have HZ := Lib.hid hzz
  have HW := Lib.hid hcw
  have HW0 := Lib.hid hw0
  have HSZ := Lib.hid hsz
  have H1 := Lib.hid h1
  clear h1 hz0 hz1 hzz hcw hw0 hsz
  go_wp2_with fail
  go_region
  go_wp2_with fail
  · obtain ⟨E', hE'e⟩ : ∃ E', E' = E.extract 0 500 := ⟨_, rfl⟩
    obtain ⟨N', hN'e⟩ : ∃ N', N' = N.extract 0 500 := ⟨_, rfl⟩
    have hE' : E'.size ≤ 1000 := by rw [hE'e]; first | omega | (rw [ByteArray.size_extract]; omega)
    have hN' : N'.size ≤ 1000 := by rw [hN'e]; first | omega | (rw [ByteArray.size_extract]; omega)
    rw [← hE'e, ← hN'e]
    have HE := Lib.hid hE'
    have HN := Lib.hid hN'
    clear hE'e hN'e
    refine (disk_wakes _).mono ?_
    rintro e w2 ⟨rfl, hc2⟩
    have H2 := Lib.hid (H1.out.same ((show Chg (fun _ => False) w1 w1.drew by ((repeat (first | exact Chg.refl _ _ | assumption | refine Chg.drewN ?_ _ | refine Chg.drew ?_ | refine Chg.alloc ?_ _ | refine Chg.setCell ?_ (by simp) _)))).then hc2))
    clear hc2
    go_wp2_with fail
    refine (c_create0 E' hE' w0 _ _ H2.out).mono ?_
    rintro e w3 ⟨rfl, h3⟩
    have H3 := Lib.hid h3
    clear h3
    go_wp2_with fail
    refine (c_append0 E' hE' w0 _ _ H3.out).mono ?_
    rintro e w4 ⟨rfl, h4⟩
    have H4 := Lib.hid h4
    clear h4
    go_wp2_with fail
    refine (c_sync0 E' hE' w0 _ _ H4.out).mono ?_
    rintro e w5 ⟨rfl, h5⟩
    have H5 := Lib.hid h5
    clear h5
    go_wp2_with fail
    refine (c_syncdir0 E' hE' w0 _ _ H5.out).mono ?_
    rintro e w6 ⟨rfl, h6⟩
    have H6 := Lib.hid h6
    clear h6
    have ZZ := Lib.hid (HZ.out _ _ _ H6.out)
    obtain ⟨z0, z1⟩ := ZZ.out
    go_wp2_with fail
    all_goals
      with_reducible refine (c_cut E' hE' w0 _ _ c1 bytes _ hbl (by omega) h1.1 h1.2 _ H6.out (HO.out _ (((HW.out).mono fun k _ e => e.elim).trans H6.out.frame (by simp)))).mono ?_
      rintro e w7 ⟨rfl, l7, h7⟩
      have H7 := Lib.hid h7
      clear h7 z0 z1 ZZ
      go_wp2_with fail
      refine (c_create E' N' HE.out HN.out w0 _ _ _ _ _ H7.out).mono ?_
      rintro e w8 ⟨r, D, rfl, h8, ⟨rfl, l8, c8, b8, rfl⟩ | ⟨hr, hsafe⟩⟩
      rotate_left
      · have H8 := Lib.hid h8
        have HS := Lib.hid hsafe
        clear h8 hsafe
        have ZZ := Lib.hid (HZ.out _ _ _ H8.out)
        obtain ⟨z0, z1⟩ := ZZ.out
        go_wp2_with fail
        refine (st_crash w0 _ _ c1 bytes _ (by exact Nat.le_trans HS.out.2.1 (by decide)) h1.1 h1.2 _ H8.out ?_).mono ?_
        · exact HB.out _ _ _ H8.out
        rintro e wc ⟨rfl, hc⟩
        have HC := Lib.hid hc
        clear hc z0 z1 ZZ
        go_wp2_with fail
        refine (c_read E' N' hE' hN' w0 _ c1 bytes _ HS.out _ HC.out).mono ?_
        rintro e wd ⟨s, rfl, rfl | rfl, hc⟩
        all_goals
          have hs : (s.toList == s.toList) = true := by simp
          have HF := Lib.hid hc
          clear hc
          go_wp2_with fail
          all_goals go_ret
          all_goals first | exact ⟨rfl, HW.out.then HF.out⟩ | exact ⟨congrArg (fun b => Ending.returned (Value.bool b)) (by simp [hr] : (s.toList == N'.toList || !(r == 0)) = true), HW.out.then HF.out⟩
      have H8 := Lib.hid h8
      clear h8
      go_wp2_with fail
      refine (c_append E' N' HE.out HN.out w0 _ _ _ _ _ H8.out).mono ?_
      rintro e w9 ⟨r, D, rfl, h9, ⟨rfl, l9, c9, b9, rfl⟩ | ⟨hr, hsafe⟩⟩
      rotate_left
      · have H9 := Lib.hid h9
        have HS := Lib.hid hsafe
        clear h9 hsafe
        have ZZ := Lib.hid (HZ.out _ _ _ H9.out)
        obtain ⟨z0, z1⟩ := ZZ.out
        go_wp2_with fail
        refine (st_crash w0 _ _ c1 bytes _ (by exact Nat.le_trans HS.out.2.1 (by decide)) h1.1 h1.2 _ H9.out ?_).mono ?_
        · exact HB.out _ _ _ H9.out
        rintro e wc ⟨rfl, hc⟩
        have HC := Lib.hid hc
        clear hc z0 z1 ZZ
        go_wp2_with fail
        refine (c_read E' N' hE' hN' w0 _ c1 bytes _ HS.out _ HC.out).mono ?_
        rintro e wd ⟨s, rfl, rfl | rfl, hc⟩
        all_goals
          have hs : (s.toList == s.toList) = true := by simp
          have HF := Lib.hid hc
          clear hc
          go_wp2_with fail
          all_goals go_ret
          all_goals first | exact ⟨rfl, HW.out.then HF.out⟩ | exact ⟨congrArg (fun b => Ending.returned (Value.bool b)) (by simp [hr] : (s.toList == N'.toList || !(r == 0)) = true), HW.out.then HF.out⟩
      have H9 := Lib.hid h9
      clear h9
      go_wp2_with fail
      refine (c_sync E' N' HE.out HN.out w0 _ _ _ _ _ H9.out).mono ?_
      rintro e w10 ⟨r, D, rfl, h10, ⟨rfl, l10, c10, b10, rfl⟩ | ⟨hr, hsafe⟩⟩
      rotate_left
      · have H10 := Lib.hid h10
        have HS := Lib.hid hsafe
        clear h10 hsafe
        have ZZ := Lib.hid (HZ.out _ _ _ H10.out)
        obtain ⟨z0, z1⟩ := ZZ.out
        go_wp2_with fail
        refine (st_crash w0 _ _ c1 bytes _ (by exact Nat.le_trans HS.out.2.1 (by decide)) h1.1 h1.2 _ H10.out ?_).mono ?_
        · exact HB.out _ _ _ H10.out
        rintro e wc ⟨rfl, hc⟩
        have HC := Lib.hid hc
        clear hc z0 z1 ZZ
        go_wp2_with fail
        refine (c_read E' N' hE' hN' w0 _ c1 bytes _ HS.out _ HC.out).mono ?_
        rintro e wd ⟨s, rfl, rfl | rfl, hc⟩
        all_goals
          have hs : (s.toList == s.toList) = true := by simp
          have HF := Lib.hid hc
          clear hc
          go_wp2_with fail
          all_goals go_ret
          all_goals first | exact ⟨rfl, HW.out.then HF.out⟩ | exact ⟨congrArg (fun b => Ending.returned (Value.bool b)) (by simp [hr] : (s.toList == N'.toList || !(r == 0)) = true), HW.out.then HF.out⟩
      have H10 := Lib.hid h10
      clear h10
      go_wp2_with fail
      refine (c_rename E' N' HE.out HN.out w0 _ _ _ _ _ H10.out).mono ?_
      rintro e w11 ⟨r, D, rfl, h11, ⟨rfl, l11, c11, b11, rfl⟩ | ⟨hr, hsafe⟩⟩
      rotate_left
      · have H11 := Lib.hid h11
        have HS := Lib.hid hsafe
        clear h11 hsafe
        have ZZ := Lib.hid (HZ.out _ _ _ H11.out)
        obtain ⟨z0, z1⟩ := ZZ.out
        go_wp2_with fail
        refine (st_crash w0 _ _ c1 bytes _ (by exact Nat.le_trans HS.out.2.1 (by decide)) h1.1 h1.2 _ H11.out ?_).mono ?_
        · exact HB.out _ _ _ H11.out
        rintro e wc ⟨rfl, hc⟩
        have HC := Lib.hid hc
        clear hc z0 z1 ZZ
        go_wp2_with fail
        refine (c_read E' N' hE' hN' w0 _ c1 bytes _ HS.out _ HC.out).mono ?_
        rintro e wd ⟨s, rfl, rfl | rfl, hc⟩
        all_goals
          have hs : (s.toList == s.toList) = true := by simp
          have HF := Lib.hid hc
          clear hc
          go_wp2_with fail
          all_goals go_ret
          all_goals first | exact ⟨rfl, HW.out.then HF.out⟩ | exact ⟨congrArg (fun b => Ending.returned (Value.bool b)) (by simp [hr] : (s.toList == N'.toList || !(r == 0)) = true), HW.out.then HF.out⟩
      have H11 := Lib.hid h11
      clear h11
      go_wp2_with fail
      refine (c_syncdir E' N' HE.out HN.out w0 _ _ _ _ _ H11.out).mono ?_
      rintro e w12 ⟨r, D, rfl, h12, ⟨rfl, l12, c12, b12, rfl⟩ | ⟨hr, hsafe⟩⟩
      rotate_left
      · have H12 := Lib.hid h12
        have HS := Lib.hid hsafe
        clear h12 hsafe
        have ZZ := Lib.hid (HZ.out _ _ _ H12.out)
        obtain ⟨z0, z1⟩ := ZZ.out
        go_wp2_with fail
        refine (st_crash w0 _ _ c1 bytes _ (by exact Nat.le_trans HS.out.2.1 (by decide)) h1.1 h1.2 _ H12.out ?_).mono ?_
        · exact HB.out _ _ _ H12.out
        rintro e wc ⟨rfl, hc⟩
        have HC := Lib.hid hc
        clear hc z0 z1 ZZ
        go_wp2_with fail
        refine (c_read E' N' hE' hN' w0 _ c1 bytes _ HS.out _ HC.out).mono ?_
        rintro e wd ⟨s, rfl, rfl | rfl, hc⟩
        all_goals
          have hs : (s.toList == s.toList) = true := by simp
          have HF := Lib.hid hc
          clear hc
          go_wp2_with fail
          all_goals go_ret
          all_goals first | exact ⟨rfl, HW.out.then HF.out⟩ | exact ⟨congrArg (fun b => Ending.returned (Value.bool b)) (by simp [hr] : (s.toList == N'.toList || !(r == 0)) = true), HW.out.then HF.out⟩
      have H12 := Lib.hid h12
      clear h12
      have ZZ := Lib.hid (HZ.out _ _ _ H12.out)
      obtain ⟨z0, z1⟩ := ZZ.out
      go_wp2_with fail
      refine (st_crash w0 _ _ c1 bytes _ (by simp [rnY5]) h1.1 h1.2 _ H12.out ?_).mono ?_
      · exact HB.out _ _ _ H12.out
      rintro e wc ⟨rfl, hc⟩
      have HC := Lib.hid hc
      clear hc z0 z1 ZZ
      go_wp2_with fail
      refine (c_read5 E' N' hE' hN' w0 _ c1 bytes _ _ _ _ HC.out).mono ?_
      rintro e wd ⟨rfl, hc⟩
      have hs : (N'.toList == N'.toList) = true := by simp
      have HF := Lib.hid hc
      clear hc
      go_wp2_with fail
      go_ret
      exact ⟨rfl, HW.out.then HF.out⟩
  · obtain ⟨E', hE'e⟩ : ∃ E', E' = E.extract 0 500 := ⟨_, rfl⟩
    obtain ⟨N', hN'e⟩ : ∃ N', N' = N := ⟨_, rfl⟩
    have hE' : E'.size ≤ 1000 := by rw [hE'e]; first | omega | (rw [ByteArray.size_extract]; omega)
    have hN' : N'.size ≤ 1000 := by rw [hN'e]; first | omega | (rw [ByteArray.size_extract]; omega)
    rw [← hE'e, ← hN'e]
    have HE := Lib.hid hE'
    have HN := Lib.hid hN'
    clear hE'e hN'e
    refine (disk_wakes _).mono ?_
    rintro e w2 ⟨rfl, hc2⟩
    have H2 := Lib.hid (H1.out.same ((show Chg (fun _ => False) w1 w1.drew by ((repeat (first | exact Chg.refl _ _ | assumption | refine Chg.drewN ?_ _ | refine Chg.drew ?_ | refine Chg.alloc ?_ _ | refine Chg.setCell ?_ (by simp) _)))).then hc2))
    clear hc2
    go_wp2_with fail
    refine (c_create0 E' hE' w0 _ _ H2.out).mono ?_
    rintro e w3 ⟨rfl, h3⟩
    have H3 := Lib.hid h3
    clear h3
    go_wp2_with fail
    refine (c_append0 E' hE' w0 _ _ H3.out).mono ?_
    rintro e w4 ⟨rfl, h4⟩
    have H4 := Lib.hid h4
    clear h4
    go_wp2_with fail
    refine (c_sync0 E' hE' w0 _ _ H4.out).mono ?_
    rintro e w5 ⟨rfl, h5⟩
    have H5 := Lib.hid h5
    clear h5
    go_wp2_with fail
    refine (c_syncdir0 E' hE' w0 _ _ H5.out).mono ?_
    rintro e w6 ⟨rfl, h6⟩
    have H6 := Lib.hid h6
    clear h6
    have ZZ := Lib.hid (HZ.out _ _ _ H6.out)
    obtain ⟨z0, z1⟩ := ZZ.out
    go_wp2_with fail
    all_goals
      with_reducible refine (c_cut E' hE' w0 _ _ c1 bytes _ hbl (by omega) h1.1 h1.2 _ H6.out (HO.out _ (((HW.out).mono fun k _ e => e.elim).trans H6.out.frame (by simp)))).mono ?_
      rintro e w7 ⟨rfl, l7, h7⟩
      have H7 := Lib.hid h7
      clear h7 z0 z1 ZZ
      go_wp2_with fail
      refine (c_create E' N' HE.out HN.out w0 _ _ _ _ _ H7.out).mono ?_
      rintro e w8 ⟨r, D, rfl, h8, ⟨rfl, l8, c8, b8, rfl⟩ | ⟨hr, hsafe⟩⟩
      rotate_left
      · have H8 := Lib.hid h8
        have HS := Lib.hid hsafe
        clear h8 hsafe
        have ZZ := Lib.hid (HZ.out _ _ _ H8.out)
        obtain ⟨z0, z1⟩ := ZZ.out
        go_wp2_with fail
        refine (st_crash w0 _ _ c1 bytes _ (by exact Nat.le_trans HS.out.2.1 (by decide)) h1.1 h1.2 _ H8.out ?_).mono ?_
        · exact HB.out _ _ _ H8.out
        rintro e wc ⟨rfl, hc⟩
        have HC := Lib.hid hc
        clear hc z0 z1 ZZ
        go_wp2_with fail
        refine (c_read E' N' hE' hN' w0 _ c1 bytes _ HS.out _ HC.out).mono ?_
        rintro e wd ⟨s, rfl, rfl | rfl, hc⟩
        all_goals
          have hs : (s.toList == s.toList) = true := by simp
          have HF := Lib.hid hc
          clear hc
          go_wp2_with fail
          all_goals go_ret
          all_goals first | exact ⟨rfl, HW.out.then HF.out⟩ | exact ⟨congrArg (fun b => Ending.returned (Value.bool b)) (by simp [hr] : (s.toList == N'.toList || !(r == 0)) = true), HW.out.then HF.out⟩
      have H8 := Lib.hid h8
      clear h8
      go_wp2_with fail
      refine (c_append E' N' HE.out HN.out w0 _ _ _ _ _ H8.out).mono ?_
      rintro e w9 ⟨r, D, rfl, h9, ⟨rfl, l9, c9, b9, rfl⟩ | ⟨hr, hsafe⟩⟩
      rotate_left
      · have H9 := Lib.hid h9
        have HS := Lib.hid hsafe
        clear h9 hsafe
        have ZZ := Lib.hid (HZ.out _ _ _ H9.out)
        obtain ⟨z0, z1⟩ := ZZ.out
        go_wp2_with fail
        refine (st_crash w0 _ _ c1 bytes _ (by exact Nat.le_trans HS.out.2.1 (by decide)) h1.1 h1.2 _ H9.out ?_).mono ?_
        · exact HB.out _ _ _ H9.out
        rintro e wc ⟨rfl, hc⟩
        have HC := Lib.hid hc
        clear hc z0 z1 ZZ
        go_wp2_with fail
        refine (c_read E' N' hE' hN' w0 _ c1 bytes _ HS.out _ HC.out).mono ?_
        rintro e wd ⟨s, rfl, rfl | rfl, hc⟩
        all_goals
          have hs : (s.toList == s.toList) = true := by simp
          have HF := Lib.hid hc
          clear hc
          go_wp2_with fail
          all_goals go_ret
          all_goals first | exact ⟨rfl, HW.out.then HF.out⟩ | exact ⟨congrArg (fun b => Ending.returned (Value.bool b)) (by simp [hr] : (s.toList == N'.toList || !(r == 0)) = true), HW.out.then HF.out⟩
      have H9 := Lib.hid h9
      clear h9
      go_wp2_with fail
      refine (c_sync E' N' HE.out HN.out w0 _ _ _ _ _ H9.out).mono ?_
      rintro e w10 ⟨r, D, rfl, h10, ⟨rfl, l10, c10, b10, rfl⟩ | ⟨hr, hsafe⟩⟩
      rotate_left
      · have H10 := Lib.hid h10
        have HS := Lib.hid hsafe
        clear h10 hsafe
        have ZZ := Lib.hid (HZ.out _ _ _ H10.out)
        obtain ⟨z0, z1⟩ := ZZ.out
        go_wp2_with fail
        refine (st_crash w0 _ _ c1 bytes _ (by exact Nat.le_trans HS.out.2.1 (by decide)) h1.1 h1.2 _ H10.out ?_).mono ?_
        · exact HB.out _ _ _ H10.out
        rintro e wc ⟨rfl, hc⟩
        have HC := Lib.hid hc
        clear hc z0 z1 ZZ
        go_wp2_with fail
        refine (c_read E' N' hE' hN' w0 _ c1 bytes _ HS.out _ HC.out).mono ?_
        rintro e wd ⟨s, rfl, rfl | rfl, hc⟩
        all_goals
          have hs : (s.toList == s.toList) = true := by simp
          have HF := Lib.hid hc
          clear hc
          go_wp2_with fail
          all_goals go_ret
          all_goals first | exact ⟨rfl, HW.out.then HF.out⟩ | exact ⟨congrArg (fun b => Ending.returned (Value.bool b)) (by simp [hr] : (s.toList == N'.toList || !(r == 0)) = true), HW.out.then HF.out⟩
      have H10 := Lib.hid h10
      clear h10
      go_wp2_with fail
      refine (c_rename E' N' HE.out HN.out w0 _ _ _ _ _ H10.out).mono ?_
      rintro e w11 ⟨r, D, rfl, h11, ⟨rfl, l11, c11, b11, rfl⟩ | ⟨hr, hsafe⟩⟩
      rotate_left
      · have H11 := Lib.hid h11
        have HS := Lib.hid hsafe
        clear h11 hsafe
        have ZZ := Lib.hid (HZ.out _ _ _ H11.out)
        obtain ⟨z0, z1⟩ := ZZ.out
        go_wp2_with fail
        refine (st_crash w0 _ _ c1 bytes _ (by exact Nat.le_trans HS.out.2.1 (by decide)) h1.1 h1.2 _ H11.out ?_).mono ?_
        · exact HB.out _ _ _ H11.out
        rintro e wc ⟨rfl, hc⟩
        have HC := Lib.hid hc
        clear hc z0 z1 ZZ
        go_wp2_with fail
        refine (c_read E' N' hE' hN' w0 _ c1 bytes _ HS.out _ HC.out).mono ?_
        rintro e wd ⟨s, rfl, rfl | rfl, hc⟩
        all_goals
          have hs : (s.toList == s.toList) = true := by simp
          have HF := Lib.hid hc
          clear hc
          go_wp2_with fail
          all_goals go_ret
          all_goals first | exact ⟨rfl, HW.out.then HF.out⟩ | exact ⟨congrArg (fun b => Ending.returned (Value.bool b)) (by simp [hr] : (s.toList == N'.toList || !(r == 0)) = true), HW.out.then HF.out⟩
      have H11 := Lib.hid h11
      clear h11
      go_wp2_with fail
      refine (c_syncdir E' N' HE.out HN.out w0 _ _ _ _ _ H11.out).mono ?_
      rintro e w12 ⟨r, D, rfl, h12, ⟨rfl, l12, c12, b12, rfl⟩ | ⟨hr, hsafe⟩⟩
      rotate_left
      · have H12 := Lib.hid h12
        have HS := Lib.hid hsafe
        clear h12 hsafe
        have ZZ := Lib.hid (HZ.out _ _ _ H12.out)
        obtain ⟨z0, z1⟩ := ZZ.out
        go_wp2_with fail
        refine (st_crash w0 _ _ c1 bytes _ (by exact Nat.le_trans HS.out.2.1 (by decide)) h1.1 h1.2 _ H12.out ?_).mono ?_
        · exact HB.out _ _ _ H12.out
        rintro e wc ⟨rfl, hc⟩
        have HC := Lib.hid hc
        clear hc z0 z1 ZZ
        go_wp2_with fail
        refine (c_read E' N' hE' hN' w0 _ c1 bytes _ HS.out _ HC.out).mono ?_
        rintro e wd ⟨s, rfl, rfl | rfl, hc⟩
        all_goals
          have hs : (s.toList == s.toList) = true := by simp
          have HF := Lib.hid hc
          clear hc
          go_wp2_with fail
          all_goals go_ret
          all_goals first | exact ⟨rfl, HW.out.then HF.out⟩ | exact ⟨congrArg (fun b => Ending.returned (Value.bool b)) (by simp [hr] : (s.toList == N'.toList || !(r == 0)) = true), HW.out.then HF.out⟩
      have H12 := Lib.hid h12
      clear h12
      have ZZ := Lib.hid (HZ.out _ _ _ H12.out)
      obtain ⟨z0, z1⟩ := ZZ.out
      go_wp2_with fail
      refine (st_crash w0 _ _ c1 bytes _ (by simp [rnY5]) h1.1 h1.2 _ H12.out ?_).mono ?_
      · exact HB.out _ _ _ H12.out
      rintro e wc ⟨rfl, hc⟩
      have HC := Lib.hid hc
      clear hc z0 z1 ZZ
      go_wp2_with fail
      refine (c_read5 E' N' hE' hN' w0 _ c1 bytes _ _ _ _ HC.out).mono ?_
      rintro e wd ⟨rfl, hc⟩
      have hs : (N'.toList == N'.toList) = true := by simp
      have HF := Lib.hid hc
      clear hc
      go_wp2_with fail
      go_ret
      exact ⟨rfl, HW.out.then HF.out⟩
  · obtain ⟨E', hE'e⟩ : ∃ E', E' = E := ⟨_, rfl⟩
    obtain ⟨N', hN'e⟩ : ∃ N', N' = N.extract 0 500 := ⟨_, rfl⟩
    have hE' : E'.size ≤ 1000 := by rw [hE'e]; first | omega | (rw [ByteArray.size_extract]; omega)
    have hN' : N'.size ≤ 1000 := by rw [hN'e]; first | omega | (rw [ByteArray.size_extract]; omega)
    rw [← hE'e, ← hN'e]
    have HE := Lib.hid hE'
    have HN := Lib.hid hN'
    clear hE'e hN'e
    refine (disk_wakes _).mono ?_
    rintro e w2 ⟨rfl, hc2⟩
    have H2 := Lib.hid (H1.out.same ((show Chg (fun _ => False) w1 w1.drew by ((repeat (first | exact Chg.refl _ _ | assumption | refine Chg.drewN ?_ _ | refine Chg.drew ?_ | refine Chg.alloc ?_ _ | refine Chg.setCell ?_ (by simp) _)))).then hc2))
    clear hc2
    go_wp2_with fail
    refine (c_create0 E' hE' w0 _ _ H2.out).mono ?_
    rintro e w3 ⟨rfl, h3⟩
    have H3 := Lib.hid h3
    clear h3
    go_wp2_with fail
    refine (c_append0 E' hE' w0 _ _ H3.out).mono ?_
    rintro e w4 ⟨rfl, h4⟩
    have H4 := Lib.hid h4
    clear h4
    go_wp2_with fail
    refine (c_sync0 E' hE' w0 _ _ H4.out).mono ?_
    rintro e w5 ⟨rfl, h5⟩
    have H5 := Lib.hid h5
    clear h5
    go_wp2_with fail
    refine (c_syncdir0 E' hE' w0 _ _ H5.out).mono ?_
    rintro e w6 ⟨rfl, h6⟩
    have H6 := Lib.hid h6
    clear h6
    have ZZ := Lib.hid (HZ.out _ _ _ H6.out)
    obtain ⟨z0, z1⟩ := ZZ.out
    go_wp2_with fail
    all_goals
      with_reducible refine (c_cut E' hE' w0 _ _ c1 bytes _ hbl (by omega) h1.1 h1.2 _ H6.out (HO.out _ (((HW.out).mono fun k _ e => e.elim).trans H6.out.frame (by simp)))).mono ?_
      rintro e w7 ⟨rfl, l7, h7⟩
      have H7 := Lib.hid h7
      clear h7 z0 z1 ZZ
      go_wp2_with fail
      refine (c_create E' N' HE.out HN.out w0 _ _ _ _ _ H7.out).mono ?_
      rintro e w8 ⟨r, D, rfl, h8, ⟨rfl, l8, c8, b8, rfl⟩ | ⟨hr, hsafe⟩⟩
      rotate_left
      · have H8 := Lib.hid h8
        have HS := Lib.hid hsafe
        clear h8 hsafe
        have ZZ := Lib.hid (HZ.out _ _ _ H8.out)
        obtain ⟨z0, z1⟩ := ZZ.out
        go_wp2_with fail
        refine (st_crash w0 _ _ c1 bytes _ (by exact Nat.le_trans HS.out.2.1 (by decide)) h1.1 h1.2 _ H8.out ?_).mono ?_
        · exact HB.out _ _ _ H8.out
        rintro e wc ⟨rfl, hc⟩
        have HC := Lib.hid hc
        clear hc z0 z1 ZZ
        go_wp2_with fail
        refine (c_read E' N' hE' hN' w0 _ c1 bytes _ HS.out _ HC.out).mono ?_
        rintro e wd ⟨s, rfl, rfl | rfl, hc⟩
        all_goals
          have hs : (s.toList == s.toList) = true := by simp
          have HF := Lib.hid hc
          clear hc
          go_wp2_with fail
          all_goals go_ret
          all_goals first | exact ⟨rfl, HW.out.then HF.out⟩ | exact ⟨congrArg (fun b => Ending.returned (Value.bool b)) (by simp [hr] : (s.toList == N'.toList || !(r == 0)) = true), HW.out.then HF.out⟩
      have H8 := Lib.hid h8
      clear h8
      go_wp2_with fail
      refine (c_append E' N' HE.out HN.out w0 _ _ _ _ _ H8.out).mono ?_
      rintro e w9 ⟨r, D, rfl, h9, ⟨rfl, l9, c9, b9, rfl⟩ | ⟨hr, hsafe⟩⟩
      rotate_left
      · have H9 := Lib.hid h9
        have HS := Lib.hid hsafe
        clear h9 hsafe
        have ZZ := Lib.hid (HZ.out _ _ _ H9.out)
        obtain ⟨z0, z1⟩ := ZZ.out
        go_wp2_with fail
        refine (st_crash w0 _ _ c1 bytes _ (by exact Nat.le_trans HS.out.2.1 (by decide)) h1.1 h1.2 _ H9.out ?_).mono ?_
        · exact HB.out _ _ _ H9.out
        rintro e wc ⟨rfl, hc⟩
        have HC := Lib.hid hc
        clear hc z0 z1 ZZ
        go_wp2_with fail
        refine (c_read E' N' hE' hN' w0 _ c1 bytes _ HS.out _ HC.out).mono ?_
        rintro e wd ⟨s, rfl, rfl | rfl, hc⟩
        all_goals
          have hs : (s.toList == s.toList) = true := by simp
          have HF := Lib.hid hc
          clear hc
          go_wp2_with fail
          all_goals go_ret
          all_goals first | exact ⟨rfl, HW.out.then HF.out⟩ | exact ⟨congrArg (fun b => Ending.returned (Value.bool b)) (by simp [hr] : (s.toList == N'.toList || !(r == 0)) = true), HW.out.then HF.out⟩
      have H9 := Lib.hid h9
      clear h9
      go_wp2_with fail
      refine (c_sync E' N' HE.out HN.out w0 _ _ _ _ _ H9.out).mono ?_
      rintro e w10 ⟨r, D, rfl, h10, ⟨rfl, l10, c10, b10, rfl⟩ | ⟨hr, hsafe⟩⟩
      rotate_left
      · have H10 := Lib.hid h10
        have HS := Lib.hid hsafe
        clear h10 hsafe
        have ZZ := Lib.hid (HZ.out _ _ _ H10.out)
        obtain ⟨z0, z1⟩ := ZZ.out
        go_wp2_with fail
        refine (st_crash w0 _ _ c1 bytes _ (by exact Nat.le_trans HS.out.2.1 (by decide)) h1.1 h1.2 _ H10.out ?_).mono ?_
        · exact HB.out _ _ _ H10.out
        rintro e wc ⟨rfl, hc⟩
        have HC := Lib.hid hc
        clear hc z0 z1 ZZ
        go_wp2_with fail
        refine (c_read E' N' hE' hN' w0 _ c1 bytes _ HS.out _ HC.out).mono ?_
        rintro e wd ⟨s, rfl, rfl | rfl, hc⟩
        all_goals
          have hs : (s.toList == s.toList) = true := by simp
          have HF := Lib.hid hc
          clear hc
          go_wp2_with fail
          all_goals go_ret
          all_goals first | exact ⟨rfl, HW.out.then HF.out⟩ | exact ⟨congrArg (fun b => Ending.returned (Value.bool b)) (by simp [hr] : (s.toList == N'.toList || !(r == 0)) = true), HW.out.then HF.out⟩
      have H10 := Lib.hid h10
      clear h10
      go_wp2_with fail
      refine (c_rename E' N' HE.out HN.out w0 _ _ _ _ _ H10.out).mono ?_
      rintro e w11 ⟨r, D, rfl, h11, ⟨rfl, l11, c11, b11, rfl⟩ | ⟨hr, hsafe⟩⟩
      rotate_left
      · have H11 := Lib.hid h11
        have HS := Lib.hid hsafe
        clear h11 hsafe
        have ZZ := Lib.hid (HZ.out _ _ _ H11.out)
        obtain ⟨z0, z1⟩ := ZZ.out
        go_wp2_with fail
        refine (st_crash w0 _ _ c1 bytes _ (by exact Nat.le_trans HS.out.2.1 (by decide)) h1.1 h1.2 _ H11.out ?_).mono ?_
        · exact HB.out _ _ _ H11.out
        rintro e wc ⟨rfl, hc⟩
        have HC := Lib.hid hc
        clear hc z0 z1 ZZ
        go_wp2_with fail
        refine (c_read E' N' hE' hN' w0 _ c1 bytes _ HS.out _ HC.out).mono ?_
        rintro e wd ⟨s, rfl, rfl | rfl, hc⟩
        all_goals
          have hs : (s.toList == s.toList) = true := by simp
          have HF := Lib.hid hc
          clear hc
          go_wp2_with fail
          all_goals go_ret
          all_goals first | exact ⟨rfl, HW.out.then HF.out⟩ | exact ⟨congrArg (fun b => Ending.returned (Value.bool b)) (by simp [hr] : (s.toList == N'.toList || !(r == 0)) = true), HW.out.then HF.out⟩
      have H11 := Lib.hid h11
      clear h11
      go_wp2_with fail
      refine (c_syncdir E' N' HE.out HN.out w0 _ _ _ _ _ H11.out).mono ?_
      rintro e w12 ⟨r, D, rfl, h12, ⟨rfl, l12, c12, b12, rfl⟩ | ⟨hr, hsafe⟩⟩
      rotate_left
      · have H12 := Lib.hid h12
        have HS := Lib.hid hsafe
        clear h12 hsafe
        have ZZ := Lib.hid (HZ.out _ _ _ H12.out)
        obtain ⟨z0, z1⟩ := ZZ.out
        go_wp2_with fail
        refine (st_crash w0 _ _ c1 bytes _ (by exact Nat.le_trans HS.out.2.1 (by decide)) h1.1 h1.2 _ H12.out ?_).mono ?_
        · exact HB.out _ _ _ H12.out
        rintro e wc ⟨rfl, hc⟩
        have HC := Lib.hid hc
        clear hc z0 z1 ZZ
        go_wp2_with fail
        refine (c_read E' N' hE' hN' w0 _ c1 bytes _ HS.out _ HC.out).mono ?_
        rintro e wd ⟨s, rfl, rfl | rfl, hc⟩
        all_goals
          have hs : (s.toList == s.toList) = true := by simp
          have HF := Lib.hid hc
          clear hc
          go_wp2_with fail
          all_goals go_ret
          all_goals first | exact ⟨rfl, HW.out.then HF.out⟩ | exact ⟨congrArg (fun b => Ending.returned (Value.bool b)) (by simp [hr] : (s.toList == N'.toList || !(r == 0)) = true), HW.out.then HF.out⟩
      have H12 := Lib.hid h12
      clear h12
      have ZZ := Lib.hid (HZ.out _ _ _ H12.out)
      obtain ⟨z0, z1⟩ := ZZ.out
      go_wp2_with fail
      refine (st_crash w0 _ _ c1 bytes _ (by simp [rnY5]) h1.1 h1.2 _ H12.out ?_).mono ?_
      · exact HB.out _ _ _ H12.out
      rintro e wc ⟨rfl, hc⟩
      have HC := Lib.hid hc
      clear hc z0 z1 ZZ
      go_wp2_with fail
      refine (c_read5 E' N' hE' hN' w0 _ c1 bytes _ _ _ _ HC.out).mono ?_
      rintro e wd ⟨rfl, hc⟩
      have hs : (N'.toList == N'.toList) = true := by simp
      have HF := Lib.hid hc
      clear hc
      go_wp2_with fail
      go_ret
      exact ⟨rfl, HW.out.then HF.out⟩
  · obtain ⟨E', hE'e⟩ : ∃ E', E' = E := ⟨_, rfl⟩
    obtain ⟨N', hN'e⟩ : ∃ N', N' = N := ⟨_, rfl⟩
    have hE' : E'.size ≤ 1000 := by rw [hE'e]; first | omega | (rw [ByteArray.size_extract]; omega)
    have hN' : N'.size ≤ 1000 := by rw [hN'e]; first | omega | (rw [ByteArray.size_extract]; omega)
    rw [← hE'e, ← hN'e]
    have HE := Lib.hid hE'
    have HN := Lib.hid hN'
    clear hE'e hN'e
    refine (disk_wakes _).mono ?_
    rintro e w2 ⟨rfl, hc2⟩
    have H2 := Lib.hid (H1.out.same ((show Chg (fun _ => False) w1 w1.drew by ((repeat (first | exact Chg.refl _ _ | assumption | refine Chg.drewN ?_ _ | refine Chg.drew ?_ | refine Chg.alloc ?_ _ | refine Chg.setCell ?_ (by simp) _)))).then hc2))
    clear hc2
    go_wp2_with fail
    refine (c_create0 E' hE' w0 _ _ H2.out).mono ?_
    rintro e w3 ⟨rfl, h3⟩
    have H3 := Lib.hid h3
    clear h3
    go_wp2_with fail
    refine (c_append0 E' hE' w0 _ _ H3.out).mono ?_
    rintro e w4 ⟨rfl, h4⟩
    have H4 := Lib.hid h4
    clear h4
    go_wp2_with fail
    refine (c_sync0 E' hE' w0 _ _ H4.out).mono ?_
    rintro e w5 ⟨rfl, h5⟩
    have H5 := Lib.hid h5
    clear h5
    go_wp2_with fail
    refine (c_syncdir0 E' hE' w0 _ _ H5.out).mono ?_
    rintro e w6 ⟨rfl, h6⟩
    have H6 := Lib.hid h6
    clear h6
    have ZZ := Lib.hid (HZ.out _ _ _ H6.out)
    obtain ⟨z0, z1⟩ := ZZ.out
    go_wp2_with fail
    all_goals
      with_reducible refine (c_cut E' hE' w0 _ _ c1 bytes _ hbl (by omega) h1.1 h1.2 _ H6.out (HO.out _ (((HW.out).mono fun k _ e => e.elim).trans H6.out.frame (by simp)))).mono ?_
      rintro e w7 ⟨rfl, l7, h7⟩
      have H7 := Lib.hid h7
      clear h7 z0 z1 ZZ
      go_wp2_with fail
      refine (c_create E' N' HE.out HN.out w0 _ _ _ _ _ H7.out).mono ?_
      rintro e w8 ⟨r, D, rfl, h8, ⟨rfl, l8, c8, b8, rfl⟩ | ⟨hr, hsafe⟩⟩
      rotate_left
      · have H8 := Lib.hid h8
        have HS := Lib.hid hsafe
        clear h8 hsafe
        have ZZ := Lib.hid (HZ.out _ _ _ H8.out)
        obtain ⟨z0, z1⟩ := ZZ.out
        go_wp2_with fail
        refine (st_crash w0 _ _ c1 bytes _ (by exact Nat.le_trans HS.out.2.1 (by decide)) h1.1 h1.2 _ H8.out ?_).mono ?_
        · exact HB.out _ _ _ H8.out
        rintro e wc ⟨rfl, hc⟩
        have HC := Lib.hid hc
        clear hc z0 z1 ZZ
        go_wp2_with fail
        refine (c_read E' N' hE' hN' w0 _ c1 bytes _ HS.out _ HC.out).mono ?_
        rintro e wd ⟨s, rfl, rfl | rfl, hc⟩
        all_goals
          have hs : (s.toList == s.toList) = true := by simp
          have HF := Lib.hid hc
          clear hc
          go_wp2_with fail
          all_goals go_ret
          all_goals first | exact ⟨rfl, HW.out.then HF.out⟩ | exact ⟨congrArg (fun b => Ending.returned (Value.bool b)) (by simp [hr] : (s.toList == N'.toList || !(r == 0)) = true), HW.out.then HF.out⟩
      have H8 := Lib.hid h8
      clear h8
      go_wp2_with fail
      refine (c_append E' N' HE.out HN.out w0 _ _ _ _ _ H8.out).mono ?_
      rintro e w9 ⟨r, D, rfl, h9, ⟨rfl, l9, c9, b9, rfl⟩ | ⟨hr, hsafe⟩⟩
      rotate_left
      · have H9 := Lib.hid h9
        have HS := Lib.hid hsafe
        clear h9 hsafe
        have ZZ := Lib.hid (HZ.out _ _ _ H9.out)
        obtain ⟨z0, z1⟩ := ZZ.out
        go_wp2_with fail
        refine (st_crash w0 _ _ c1 bytes _ (by exact Nat.le_trans HS.out.2.1 (by decide)) h1.1 h1.2 _ H9.out ?_).mono ?_
        · exact HB.out _ _ _ H9.out
        rintro e wc ⟨rfl, hc⟩
        have HC := Lib.hid hc
        clear hc z0 z1 ZZ
        go_wp2_with fail
        refine (c_read E' N' hE' hN' w0 _ c1 bytes _ HS.out _ HC.out).mono ?_
        rintro e wd ⟨s, rfl, rfl | rfl, hc⟩
        all_goals
          have hs : (s.toList == s.toList) = true := by simp
          have HF := Lib.hid hc
          clear hc
          go_wp2_with fail
          all_goals go_ret
          all_goals first | exact ⟨rfl, HW.out.then HF.out⟩ | exact ⟨congrArg (fun b => Ending.returned (Value.bool b)) (by simp [hr] : (s.toList == N'.toList || !(r == 0)) = true), HW.out.then HF.out⟩
      have H9 := Lib.hid h9
      clear h9
      go_wp2_with fail
      refine (c_sync E' N' HE.out HN.out w0 _ _ _ _ _ H9.out).mono ?_
      rintro e w10 ⟨r, D, rfl, h10, ⟨rfl, l10, c10, b10, rfl⟩ | ⟨hr, hsafe⟩⟩
      rotate_left
      · have H10 := Lib.hid h10
        have HS := Lib.hid hsafe
        clear h10 hsafe
        have ZZ := Lib.hid (HZ.out _ _ _ H10.out)
        obtain ⟨z0, z1⟩ := ZZ.out
        go_wp2_with fail
        refine (st_crash w0 _ _ c1 bytes _ (by exact Nat.le_trans HS.out.2.1 (by decide)) h1.1 h1.2 _ H10.out ?_).mono ?_
        · exact HB.out _ _ _ H10.out
        rintro e wc ⟨rfl, hc⟩
        have HC := Lib.hid hc
        clear hc z0 z1 ZZ
        go_wp2_with fail
        refine (c_read E' N' hE' hN' w0 _ c1 bytes _ HS.out _ HC.out).mono ?_
        rintro e wd ⟨s, rfl, rfl | rfl, hc⟩
        all_goals
          have hs : (s.toList == s.toList) = true := by simp
          have HF := Lib.hid hc
          clear hc
          go_wp2_with fail
          all_goals go_ret
          all_goals first | exact ⟨rfl, HW.out.then HF.out⟩ | exact ⟨congrArg (fun b => Ending.returned (Value.bool b)) (by simp [hr] : (s.toList == N'.toList || !(r == 0)) = true), HW.out.then HF.out⟩
      have H10 := Lib.hid h10
      clear h10
      go_wp2_with fail
      refine (c_rename E' N' HE.out HN.out w0 _ _ _ _ _ H10.out).mono ?_
      rintro e w11 ⟨r, D, rfl, h11, ⟨rfl, l11, c11, b11, rfl⟩ | ⟨hr, hsafe⟩⟩
      rotate_left
      · have H11 := Lib.hid h11
        have HS := Lib.hid hsafe
        clear h11 hsafe
        have ZZ := Lib.hid (HZ.out _ _ _ H11.out)
        obtain ⟨z0, z1⟩ := ZZ.out
        go_wp2_with fail
        refine (st_crash w0 _ _ c1 bytes _ (by exact Nat.le_trans HS.out.2.1 (by decide)) h1.1 h1.2 _ H11.out ?_).mono ?_
        · exact HB.out _ _ _ H11.out
        rintro e wc ⟨rfl, hc⟩
        have HC := Lib.hid hc
        clear hc z0 z1 ZZ
        go_wp2_with fail
        refine (c_read E' N' hE' hN' w0 _ c1 bytes _ HS.out _ HC.out).mono ?_
        rintro e wd ⟨s, rfl, rfl | rfl, hc⟩
        all_goals
          have hs : (s.toList == s.toList) = true := by simp
          have HF := Lib.hid hc
          clear hc
          go_wp2_with fail
          all_goals go_ret
          all_goals first | exact ⟨rfl, HW.out.then HF.out⟩ | exact ⟨congrArg (fun b => Ending.returned (Value.bool b)) (by simp [hr] : (s.toList == N'.toList || !(r == 0)) = true), HW.out.then HF.out⟩
      have H11 := Lib.hid h11
      clear h11
      go_wp2_with fail
      refine (c_syncdir E' N' HE.out HN.out w0 _ _ _ _ _ H11.out).mono ?_
      rintro e w12 ⟨r, D, rfl, h12, ⟨rfl, l12, c12, b12, rfl⟩ | ⟨hr, hsafe⟩⟩
      rotate_left
      · have H12 := Lib.hid h12
        have HS := Lib.hid hsafe
        clear h12 hsafe
        have ZZ := Lib.hid (HZ.out _ _ _ H12.out)
        obtain ⟨z0, z1⟩ := ZZ.out
        go_wp2_with fail
        refine (st_crash w0 _ _ c1 bytes _ (by exact Nat.le_trans HS.out.2.1 (by decide)) h1.1 h1.2 _ H12.out ?_).mono ?_
        · exact HB.out _ _ _ H12.out
        rintro e wc ⟨rfl, hc⟩
        have HC := Lib.hid hc
        clear hc z0 z1 ZZ
        go_wp2_with fail
        refine (c_read E' N' hE' hN' w0 _ c1 bytes _ HS.out _ HC.out).mono ?_
        rintro e wd ⟨s, rfl, rfl | rfl, hc⟩
        all_goals
          have hs : (s.toList == s.toList) = true := by simp
          have HF := Lib.hid hc
          clear hc
          go_wp2_with fail
          all_goals go_ret
          all_goals first | exact ⟨rfl, HW.out.then HF.out⟩ | exact ⟨congrArg (fun b => Ending.returned (Value.bool b)) (by simp [hr] : (s.toList == N'.toList || !(r == 0)) = true), HW.out.then HF.out⟩
      have H12 := Lib.hid h12
      clear h12
      have ZZ := Lib.hid (HZ.out _ _ _ H12.out)
      obtain ⟨z0, z1⟩ := ZZ.out
      go_wp2_with fail
      refine (st_crash w0 _ _ c1 bytes _ (by simp [rnY5]) h1.1 h1.2 _ H12.out ?_).mono ?_
      · exact HB.out _ _ _ H12.out
      rintro e wc ⟨rfl, hc⟩
      have HC := Lib.hid hc
      clear hc z0 z1 ZZ
      go_wp2_with fail
      refine (c_read5 E' N' hE' hN' w0 _ c1 bytes _ _ _ _ HC.out).mono ?_
      rintro e wd ⟨rfl, hc⟩
      have hs : (N'.toList == N'.toList) = true := by simp
      have HF := Lib.hid hc
      clear hc
      go_wp2_with fail
      go_ret
      exact ⟨rfl, HW.out.then HF.out⟩
end Go.Proofs.Ytlcggocfkanblaa
