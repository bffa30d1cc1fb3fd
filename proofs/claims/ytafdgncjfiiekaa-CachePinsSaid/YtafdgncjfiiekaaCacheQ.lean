/-
  The walk of CachePins.
-/
import Derived.Test.YtafdgncjfiiekaaCacheP
namespace Go.Proofs.Ytafdgncjfiiekaa
open Go.RowKit
set_option linter.unusedVariables false
set_option linter.unusedSimpArgs false

theorem pick_loose (n : Int) : ∀ (l : Int) (L : List Node), ∀ y ∈ (pick n l L).1, y.pins = 0
  | l, [], y, hy => by simp [pick] at hy
  | l, x :: xs, y, hy => by
    unfold pick at hy
    split at hy
    · rename_i hc
      rcases List.mem_cons.1 hy with rfl | h
      · exact hc.2
      · exact pick_loose n _ xs y h
    · exact pick_loose n _ xs y hy
theorem apart_same {L : List Node} (hA : Apart L) {x y : Node} (hx : x ∈ L) (hy : y ∈ L) (e : y.id = x.id) : y = x := by
  obtain ⟨A, M, rfl⟩ := List.append_of_mem hx
  obtain ⟨h1, h2, _⟩ := hA.mid
  rcases List.mem_append.1 hy with h | h
  · exact absurd e (h1 y h)
  · rcases List.mem_cons.1 h with h | h
    · exact h
    · exact absurd e (h2 y h)
theorem rem_keeps {L D : List Node} (hA : Apart L) (hD : D.Sublist L) {x : Node} (hx : x ∈ L) (hn : x ∉ D) : x ∈ rem L D := by
  unfold rem
  rw [List.mem_filter]
  refine ⟨hx, ?_⟩
  simp only [Bool.not_eq_true', List.any_eq_false, beq_iff_eq]
  intro y hy e
  exact hn (apart_same hA hx (hD.subset hy) e ▸ hy)
/-- The block f, b is kept, pinned, with the data s. -/
def Pinned (L : List Node) (f b : Int) (s : ByteArray) : Prop := ∃ x ∈ L, x.file = f ∧ x.blk = b ∧ x.data = s ∧ x.pins = 1
theorem Pinned.shrink {L : List Node} {f b : Int} {s : ByteArray} (h : Pinned L f b s) (hA : Apart L) (B : Bud) (n : Int) : Pinned (shrink L B n).2.1 f b s := by
  obtain ⟨x, hx, e1, e2, e3, e4⟩ := h
  refine ⟨x, ?_, e1, e2, e3, e4⟩
  unfold Go.Proofs.Ytafdgncjfiiekaa.shrink
  split
  · exact hx
  · exact rem_keeps hA (pick_sub _ _ _) hx fun hm => by have := pick_loose _ _ _ x hm; omega
theorem Pinned.put {L : List Node} {f b : Int} {s : ByteArray} (h : Pinned L f b s) (hA : Apart L) (B : Bud) (f' b' : Int) (s' : ByteArray) (i : Nat) : Pinned (putM L B f' b' s' i).2.1 f b s := by
  unfold putM
  split
  · exact h
  · split
    · obtain ⟨x, hx, e⟩ := h.shrink hA B (64 + (s'.size : Int))
      exact ⟨x, List.mem_append.2 (.inl hx), e⟩
    · exact h
theorem Pinned.drop {L : List Node} {f b : Int} {s : ByteArray} (h : Pinned L f b s) (hA : Apart L) {f' : Int} (hne : f' ≠ f) : Pinned (rem L (ofFile f' L)) f b s := by
  obtain ⟨x, hx, e1, e2⟩ := h
  refine ⟨x, rem_keeps hA List.filter_sublist hx fun hm => ?_, e1, e2⟩
  have := (List.mem_filter.1 hm).2
  simp at this
  omega
/-- The first Put of a new cache. -/
theorem put_first (l f b : Int) (s : ByteArray) (i : Nat) : ((putM [] (Bud.start l) f b s i).1 = 14 ∧ (putM [] (Bud.start l) f b s i).2.1 = [] ∧ (putM [] (Bud.start l) f b s i).2.2 = Bud.start l ∧ (Bud.start l).l - (Bud.start l).u < 64 + (s.size : Int)) ∨
    ((putM [] (Bud.start l) f b s i).1 = 0 ∧ (putM [] (Bud.start l) f b s i).2.1 = [⟨i, f, b, s, 0⟩]) := by
  have e : pick (64 + (s.size : Int)) ((Bud.start l).l - (Bud.start l).u) [] = ([], (Bud.start l).l - (Bud.start l).u) := by simp [pick]
  unfold putM
  rw [if_neg (by simp [hasKey])]
  unfold shrink
  rw [e]
  by_cases h : (Bud.start l).l - (Bud.start l).u < 64 + (s.size : Int)
  · rw [if_pos h]
    exact .inl ⟨rfl, rfl, rfl, h⟩
  · rw [if_neg h]
    refine .inr ⟨rfl, ?_⟩
    simp [rem]

theorem foot_pin {p q : Nat} {L : List Node} (hL : ∀ x ∈ L, q < x.id) (h : p + 4 ≤ q) {k : Nat} (hk : FootC (p + 1 + 1 + 1) (p + 1) (p + 1 + 1) L k) : p < k ∧ k ≠ q := by
  rcases hk with rfl | rfl | rfl | ⟨y, hy, rfl⟩
  · omega
  · omega
  · omega
  · have := hL y hy; omega

set_option maxRecDepth 100000 in
set_option maxHeartbeats 4000000 in
theorem cache_pins (l : Int) (d0 f0 b0 n0 : Int) (s0 : ByteArray) (hf0 : In64 f0) (hb0 : In64 b0) (hs0 : s0.size ≤ 140737488355328) (A : Option Addr) (n c : Nat) (D F K N : Nat → Int) (S : Nat → ByteArray) (hF : ∀ i, In64 (F i)) (hK : ∀ i, In64 (K i)) (hS : ∀ i, (S i).size ≤ 140737488355328) (w : World) (hn : n ≤ 9223372036854775807) (hnc : n ≤ c)
    (hs : Rec w w.heap.size 5 A n (actRow D F K N S)) :
    Calls Try.prog 9 #[.int .i64 l, .agg #[.int .i64 d0, .int .i64 f0, .int .i64 b0, .string s0, .int .i64 n0], .slice A n c] w fun e w' => e = .returned (.bool true) ∧ Chg (fun _ => False) w w' := by
  have HR := Lib.hid hs
  have HF := Lib.hid hF
  have HK := Lib.hid hK
  have HS := Lib.hid hS
  clear hs hF hK hS
  go_enter Try.func9, Try.ntmps9
  go_wp2_with fail
  have hc0 : Chg (fun _ => False) w (w.alloc (.cells #[.int .i64 d0, .int .i64 f0, .int .i64 b0, .string s0, .int .i64 n0] 46)) := by ((repeat (first | exact Chg.refl _ _ | assumption | refine Chg.drewN ?_ _ | refine Chg.drew ?_ | refine Chg.alloc ?_ _ | refine Chg.setCell ?_ (by simp) _)))
  have hbox : Blk (w.alloc (.cells #[.int .i64 d0, .int .i64 f0, .int .i64 b0, .string s0, .int .i64 n0] 46)) w.heap.size 46 #[.int .i64 d0, .int .i64 f0, .int .i64 b0, .string s0, .int .i64 n0] := Blk.new _ _ _
  refine (bud_new l _).mono ?_
  rintro e w1 ⟨rfl, hb1, hs1, hc1⟩
  rw [show (w.alloc (.cells #[.int .i64 d0, .int .i64 f0, .int .i64 b0, .string s0, .int .i64 n0] 46)).heap.size = w.heap.size + 1 from by simp] at hb1 hs1 ⊢
  have HS1 := Lib.hid hs1
  have hbox1 := hbox.chg hc1 (by simp)
  have hcw1 := hc0.then hc1
  clear hs1 hbox hc0 hc1
  go_wp2_with fail
  refine (cache_new (w.heap.size + 1) (Bud.start l) rfl w1 hb1).mono ?_
  rintro e w2 ⟨rfl, h2, hc2, hs2⟩
  rw [HS1.out] at h2 hs2 ⊢
  have hbox2 := hbox1.chg hc2 (by simp)
  have hcw2 := hcw1.then hc2
  have y1 := hbox2.cell 1
  have y2 := hbox2.cell 2
  have y3 := hbox2.cell 3
  simp at y1 y2 y3
  have hl2 := hbox2.lt
  have HS2 := Lib.hid hs2
  have H2 := Lib.hid h2
  have HB2 := Lib.hid hbox2
  have HC2 := Lib.hid hcw2
  clear hs2 hc2 hb1 h2 hbox2 hcw2 hbox1 hcw1
  go_wp2_with fail
  have hw2a : w.heap.size + 4 ≤ w2.heap.size := by have := HS2.out; omega
  have hkey : Blk (w2.alloc (.cells #[.int .i64 f0, .int .i64 b0] 48)) w2.heap.size 48 #[.int .i64 f0, .int .i64 b0] := Blk.new _ _ _
  have hbox3 := HB2.out.chg (w' := w2.alloc (.cells #[.int .i64 f0, .int .i64 b0] 48)) (S := fun _ => False) (by ((repeat (first | exact Chg.refl _ _ | assumption | refine Chg.drewN ?_ _ | refine Chg.drew ?_ | refine Chg.alloc ?_ _ | refine Chg.setCell ?_ (by simp) _)))) (by simp)
  have hcw3 := HC2.out.then (w2 := w2.alloc (.cells #[.int .i64 f0, .int .i64 b0] 48)) (by ((repeat (first | exact Chg.refl _ _ | assumption | refine Chg.drewN ?_ _ | refine Chg.drew ?_ | refine Chg.alloc ?_ _ | refine Chg.setCell ?_ (by simp) _))))
  have hs3 : (w2.alloc (.cells #[.int .i64 f0, .int .i64 b0] 48)).heap.size = w2.heap.size + 1 := by simp
  refine (cache_put _ _ _ [] (Bud.start l) f0 b0 hf0 hb0 s0 hs0 _ (H2.out.same (by ((repeat (first | exact Chg.refl _ _ | assumption | refine Chg.drewN ?_ _ | refine Chg.drew ?_ | refine Chg.alloc ?_ _ | refine Chg.setCell ?_ (by simp) _)))))).mono ?_
  rintro e w4 ⟨i, hi, he, h4, hc4⟩
  rw [hs3] at hi
  have hft0 := fun k (hk : FootC (w.heap.size + 1 + 1 + 1) (w.heap.size + 1) (w.heap.size + 1 + 1) [] k) => foot_pin (q := w2.heap.size) (by simp) hw2a hk
  have hbox4 := hbox3.chg hc4 (fun hk => by have := hft0 _ hk; omega)
  have hkey4 := hkey.chg hc4 (fun hk => (hft0 _ hk).2 rfl)
  have hcw4 := hcw3.ownC hc4 (fun k hk => by have := hft0 _ hk; omega)
  have hs4 := hc4.size
  rw [hs3] at hs4
  have z3 := hbox4.cell 3
  have k0 := hkey4.cell 0
  have k1 := hkey4.cell 1
  simp at z3 k0 k1
  have HBOX := Lib.hid hbox4
  have HKEY := Lib.hid hkey4
  have HCW := Lib.hid hcw4
  clear hkey hbox3 hcw3 hs3 hc4 hft0 hbox4 hkey4 hcw4 H2 HB2 HC2 HS2 HS1 y1 y2 y3
  rcases put_first l f0 b0 s0 i with ⟨e1, e2, e3, hlt⟩ | ⟨e1, e2⟩
  · rw [e1] at he
    rw [e2, e3] at h4
    subst he
    have H4 := Lib.hid h4
    clear e1 e2 e3 h4 k0 k1
    have HLT := Lib.hid hlt
    clear hlt
    go_wp2_with fail
    refine (cache_wakes _).mono ?_
    rintro e w5 ⟨rfl, hc5⟩
    have h5 := H4.out.same hc5
    have z3 := (HBOX.out.chg hc5 (by simp)).cell 3
    simp at z3
    have HB5 := Lib.hid h5.bud
    have HCW5 := Lib.hid (HCW.out.then hc5)
    clear h5 hc5 H4
    go_wp2_with fail
    refine (cache_cost s0 (by omega) _).mono ?_
    rintro e w' ⟨rfl, rfl⟩
    go_wp2_with fail
    refine (bud_left _ _ _ (HB5.out.chg (S := fun _ => False) (by ((repeat (first | exact Chg.refl _ _ | assumption | refine Chg.drewN ?_ _ | refine Chg.drew ?_ | refine Chg.alloc ?_ _ | refine Chg.setCell ?_ (by simp) _)))) (by simp))).mono ?_
    rintro e w6 ⟨rfl, nn, rfl⟩
    have hlt := HLT.out
    generalize (Bud.start l).l - (Bud.start l).u = bl at hlt ⊢
    go_wp2_with fail
    go_ret
    exact ⟨rfl, HCW5.out.then (Chg.drewN (by ((repeat (first | exact Chg.refl _ _ | assumption | refine Chg.drewN ?_ _ | refine Chg.drew ?_ | refine Chg.alloc ?_ _ | refine Chg.setCell ?_ (by simp) _)))) _)⟩
  · rw [e1] at he
    rw [e2] at h4
    subst he
    generalize (putM [] (Bud.start l) f0 b0 s0 i).2.2 = B4 at h4
    clear e1 e2
    have hpin := cache_pin_hit _ _ _ [] [] ⟨i, f0, b0, s0, 0⟩ B4 (by simp) w4 h4
    have HP := Lib.hid hpin
    clear hpin h4
    go_wp2_with fail
    refine HP.out.mono ?_
    rintro e w5 ⟨rfl, h5, hc5⟩
    have hft5 := fun k (hk : FootC (w.heap.size + 1 + 1 + 1) (w.heap.size + 1) (w.heap.size + 1 + 1) [(⟨i, f0, b0, s0, 0⟩ : Node)] k) => foot_pin (q := w2.heap.size) (by simp; omega) hw2a hk
    have hbox5 := HBOX.out.chg hc5 (fun hk => by have := hft5 _ hk; omega)
    have hkey5 := HKEY.out.chg hc5 (fun hk => (hft5 _ hk).2 rfl)
    have hcw5 := HCW.out.ownC hc5 (fun k hk => by have := hft5 _ hk; omega)
    have hP5 : Pinned [(⟨i, f0, b0, s0, 1⟩ : Node)] f0 b0 s0 := ⟨⟨i, f0, b0, s0, 1⟩, by simp, rfl, rfl, rfl, rfl⟩
    have h5' : CacheAt w5 (w.heap.size + 1 + 1 + 1) (w.heap.size + 1) (w.heap.size + 1 + 1) [(⟨i, f0, b0, s0, 1⟩ : Node)] B4 := h5
    clear h5 hc5 hft5 HBOX HKEY HCW HP z3 k0 k1
    have H5 := Lib.hid h5'
    have HP5 := Lib.hid hP5
    have HB5 := Lib.hid hbox5
    have HK5 := Lib.hid hkey5
    have HCW5 := Lib.hid hcw5
    clear h5' hP5 hbox5 hkey5 hcw5
    go_wp2_with fail
    -- LOOP
    all_goals (try simp only [show max (60 : Int) 0 = 60 from rfl])
    all_goals obtain ⟨q, hq1, hq2, hq3⟩ : ∃ q : Nat, q ≤ n ∧ q ≤ 60 ∧ (q = n ∨ q = 60) := ⟨min n 60, by omega, by omega, by omega⟩
    all_goals
      go_loopw [51] (fun i wr => ∃ k : Nat, k ≤ q ∧ i = .int .i64 k ∧ ∃ L B, CacheAt wr (w.heap.size + 1 + 1 + 1) (w.heap.size + 1) (w.heap.size + 1 + 1) L B ∧ (∀ y ∈ L, w2.heap.size < y.id) ∧ Pinned L f0 b0 s0 ∧ Blk wr w.heap.size 46 #[.int .i64 d0, .int .i64 f0, .int .i64 b0, .string s0, .int .i64 n0] ∧ Blk wr w2.heap.size 48 #[.int .i64 f0, .int .i64 b0] ∧ Chg (fun _ => False) w wr) (fun i _ => q - (intOf i).toNat)
      case atStart => exact ⟨0, by omega, rfl, _, _, H5.out, by simp; omega, HP5.out, HB5.out, HK5.out, HCW5.out⟩
      case round =>
        obtain ⟨k, hk, rfl, L, B, hC, hL, hP, hbx, hkx, hcc⟩ := hrel
        clear H5 HP5 HB5 HK5 HCW5
        by_cases hlt : k < q
        · obtain ⟨b, off, rfl, hbB, hcell⟩ := HR.out (by omega)
          have x0 := (hcc.cell (p := ⟨b, _, none⟩) hbB (by simp)).trans (hcell k (by omega) 0 (by omega))
          have x1 := (hcc.cell (p := ⟨b, _, none⟩) hbB (by simp)).trans (hcell k (by omega) 1 (by omega))
          have x2 := (hcc.cell (p := ⟨b, _, none⟩) hbB (by simp)).trans (hcell k (by omega) 2 (by omega))
          have x3 := (hcc.cell (p := ⟨b, _, none⟩) hbB (by simp)).trans (hcell k (by omega) 3 (by omega))
          have x4 := (hcc.cell (p := ⟨b, _, none⟩) hbB (by simp)).trans (hcell k (by omega) 4 (by omega))
          simp only [Nat.add_zero, actRow] at x0 x1 x2 x3 x4
          have hk0 : (0 : Int) ≤ (k : Int) := by omega
          have hk1 : (k : Int) < (n : Int) := by omega
          have hk2 : (k : Int) < 60 := by omega
          have hwl := hkx.lt
          have hbl := hbx.lt
          have z1 := hbx.cell 1
          simp at z1
          have hc4 : Chg (fun _ => False) wr ((wr.alloc (.cells #[.int .i64 (D k), .int .i64 (F k), .int .i64 (K k), .string (S k), .int .i64 (N k)] 46)).alloc (.cells #[.int .i64 (F k), .int .i64 (K k)] 48)) := by ((repeat (first | exact Chg.refl _ _ | assumption | refine Chg.drewN ?_ _ | refine Chg.drew ?_ | refine Chg.alloc ?_ _ | refine Chg.setCell ?_ (by simp) _)))
          have hs4 : ((wr.alloc (.cells #[.int .i64 (D k), .int .i64 (F k), .int .i64 (K k), .string (S k), .int .i64 (N k)] 46)).alloc (.cells #[.int .i64 (F k), .int .i64 (K k)] 48)).heap.size = wr.heap.size + 2 := by simp
          have HQ := Lib.hid hq3
          have HC := Lib.hid hC
          have HL := Lib.hid hL
          have HP := Lib.hid hP
          have HBX := Lib.hid hbx
          have HKX := Lib.hid hkx
          have HCC := Lib.hid hcc
          have HC4 := Lib.hid hc4
          have HS4 := Lib.hid hs4
          have HWR := Lib.hid hwl
          clear hcell HR hC hL hP hbx hkx hcc hq3 hc4 hs4
          have hm : (D k).tmod 3 = 0 ∨ (D k).tmod 3 = 1 ∨ (D k).tmod 3 = -1 ∨ (D k).tmod 3 = 2 ∨ (D k).tmod 3 = -2 := by
            have h1 := Int.tmod_lt_of_pos (D k) (show (0 : Int) < 3 by decide)
            have h2 : -3 < (D k).tmod 3 := by
              have := Int.tmod_lt_of_pos (-(D k)) (show (0 : Int) < 3 by decide)
              rw [Int.neg_tmod] at this
              omega
            omega
          rcases hm with hm | hm | hm | hm | hm
          · go_wp2_with fail
            clear x0 x1 x2 x3 x4
            refine (cache_put (w.heap.size + 1 + 1 + 1) (w.heap.size + 1) (w.heap.size + 1 + 1) L B (F k) (K k) (HF.out k) (HK.out k) (S k) (HS.out k) _ (HC.out.same HC4.out)).mono ?_
            rintro e w6 ⟨i5, hi5, he, h6, hc6⟩
            rw [HS4.out] at hi5
            have hw4 := HWR.out
            subst he
            have hft6 := fun k (hk : FootC (w.heap.size + 1 + 1 + 1) (w.heap.size + 1) (w.heap.size + 1 + 1) L k) => foot_pin (q := w2.heap.size) HL.out hw2a hk
            have hb6 := (HBX.out.chg HC4.out (by simp)).chg hc6 (fun hk => by have := hft6 _ hk; omega)
            have hk6 := (HKX.out.chg HC4.out (by simp)).chg hc6 (fun hk => (hft6 _ hk).2 rfl)
            have hcw6 := (HCC.out.then HC4.out).ownC hc6 (fun k hk => by have := hft6 _ hk; omega)
            have hL6 : ∀ y ∈ (putM L B (F k) (K k) (S k) i5).2.1, w2.heap.size < y.id := fun y hy => by
              rcases put_ids _ _ _ _ _ _ y hy with h | h
              · exact HL.out y h
              · omega
            have hP6 := HP.out.put HC.out.ring.apart B (F k) (K k) (S k) i5
            clear hc6 hft6
            generalize (putM L B (F k) (K k) (S k) i5).1 = r6
            generalize (putM L B (F k) (K k) (S k) i5).2.1 = L6 at h6 hL6 hP6
            generalize (putM L B (F k) (K k) (S k) i5).2.2 = B6 at h6
            obtain ⟨x, hx, e1, e2, e3, e4⟩ := hP6
            obtain ⟨A6, M6, rfl⟩ := List.append_of_mem hx
            have hget := cache_get_hit (w.heap.size + 1 + 1 + 1) (w.heap.size + 1) (w.heap.size + 1 + 1) A6 M6 x _ w6 h6
            rw [e1, e2, e3] at hget
            have k0 := hk6.cell 0
            have k1 := hk6.cell 1
            simp at k0 k1
            have HG := Lib.hid hget
            have HE := Lib.hid (And.intro e1 (And.intro e2 (And.intro e3 e4)))
            have HL6 := Lib.hid hL6
            have HB6 := Lib.hid hb6
            have HK6 := Lib.hid hk6
            have HCW6 := Lib.hid hcw6
            clear hget e1 e2 e3 e4 hL6 hb6 hk6 hcw6 h6 hx
            go_wp2_with fail
            refine HG.out.mono ?_
            rintro e w7 ⟨rfl, h7, hc7⟩
            have hft7 := fun k (hk : FootC (w.heap.size + 1 + 1 + 1) (w.heap.size + 1) (w.heap.size + 1 + 1) (A6 ++ x :: M6) k) => foot_pin (q := w2.heap.size) HL6.out hw2a hk
            have hb7 := HB6.out.chg hc7 (fun hk => by have := hft7 _ hk; omega)
            have hk7 := HK6.out.chg hc7 (fun hk => (hft7 _ hk).2 rfl)
            have hcw7 := HCW6.out.ownC hc7 (fun k hk => by have := hft7 _ hk; omega)
            have hL7 : ∀ y ∈ A6 ++ M6 ++ [x], w2.heap.size < y.id := fun y hy => HL6.out y (by simp at hy ⊢; rcases hy with h | h | h <;> simp [h])
            have hP7 : Pinned (A6 ++ M6 ++ [x]) f0 b0 s0 := ⟨x, by simp, HE.out⟩
            have z3 := hb7.cell 3
            simp at z3
            clear hc7 hft7
            have HH7 := Lib.hid (And.intro h7 (And.intro hL7 (And.intro hP7 (And.intro hb7 (And.intro hk7 hcw7)))))
            clear h7 hL7 hP7 hb7 hk7 hcw7 k0 k1
            go_wp2_with fail
            refine ⟨⟨k + 1, by omega, by go_num, _, _, HH7.out⟩, ?_⟩
            simp [intOf]; omega
          · go_wp2_with fail
            clear x0 x1 x2 x3 x4
            refine (cache_shrink (w.heap.size + 1 + 1 + 1) (w.heap.size + 1) (w.heap.size + 1 + 1) L B (N k) _ (HC.out.same HC4.out)).mono ?_
            rintro e w6 ⟨rfl, h6, hc6⟩
            have hw4 := HWR.out
            have hft6 := fun k (hk : FootC (w.heap.size + 1 + 1 + 1) (w.heap.size + 1) (w.heap.size + 1 + 1) L k) => foot_pin (q := w2.heap.size) HL.out hw2a hk
            have hb6 := (HBX.out.chg HC4.out (by simp)).chg hc6 (fun hk => by have := hft6 _ hk; omega)
            have hk6 := (HKX.out.chg HC4.out (by simp)).chg hc6 (fun hk => (hft6 _ hk).2 rfl)
            have hcw6 := (HCC.out.then HC4.out).ownC hc6 (fun k hk => by have := hft6 _ hk; omega)
            have hL6 : ∀ y ∈ (shrink L B (N k)).2.1, w2.heap.size < y.id := fun y hy => HL.out y ((shrink_sub _ _ _).subset hy)
            have hP6 := HP.out.shrink HC.out.ring.apart B (N k)
            clear hc6 hft6
            generalize (shrink L B (N k)).1 = r6
            generalize (shrink L B (N k)).2.1 = L6 at h6 hL6 hP6
            generalize (shrink L B (N k)).2.2 = B6 at h6
            obtain ⟨x, hx, e1, e2, e3, e4⟩ := hP6
            obtain ⟨A6, M6, rfl⟩ := List.append_of_mem hx
            have hget := cache_get_hit (w.heap.size + 1 + 1 + 1) (w.heap.size + 1) (w.heap.size + 1 + 1) A6 M6 x _ w6 h6
            rw [e1, e2, e3] at hget
            have k0 := hk6.cell 0
            have k1 := hk6.cell 1
            simp at k0 k1
            have HG := Lib.hid hget
            have HE := Lib.hid (And.intro e1 (And.intro e2 (And.intro e3 e4)))
            have HL6 := Lib.hid hL6
            have HB6 := Lib.hid hb6
            have HK6 := Lib.hid hk6
            have HCW6 := Lib.hid hcw6
            clear hget e1 e2 e3 e4 hL6 hb6 hk6 hcw6 h6 hx
            go_wp2_with fail
            refine HG.out.mono ?_
            rintro e w7 ⟨rfl, h7, hc7⟩
            have hft7 := fun k (hk : FootC (w.heap.size + 1 + 1 + 1) (w.heap.size + 1) (w.heap.size + 1 + 1) (A6 ++ x :: M6) k) => foot_pin (q := w2.heap.size) HL6.out hw2a hk
            have hb7 := HB6.out.chg hc7 (fun hk => by have := hft7 _ hk; omega)
            have hk7 := HK6.out.chg hc7 (fun hk => (hft7 _ hk).2 rfl)
            have hcw7 := HCW6.out.ownC hc7 (fun k hk => by have := hft7 _ hk; omega)
            have hL7 : ∀ y ∈ A6 ++ M6 ++ [x], w2.heap.size < y.id := fun y hy => HL6.out y (by simp at hy ⊢; rcases hy with h | h | h <;> simp [h])
            have hP7 : Pinned (A6 ++ M6 ++ [x]) f0 b0 s0 := ⟨x, by simp, HE.out⟩
            have z3 := hb7.cell 3
            simp at z3
            clear hc7 hft7
            have HH7 := Lib.hid (And.intro h7 (And.intro hL7 (And.intro hP7 (And.intro hb7 (And.intro hk7 hcw7)))))
            clear h7 hL7 hP7 hb7 hk7 hcw7 k0 k1
            go_wp2_with fail
            refine ⟨⟨k + 1, by omega, by go_num, _, _, HH7.out⟩, ?_⟩
            simp [intOf]; omega
          · go_wp2_with fail
            clear x0 x1 x2 x3 x4
            refine (cache_shrink (w.heap.size + 1 + 1 + 1) (w.heap.size + 1) (w.heap.size + 1 + 1) L B (N k) _ (HC.out.same HC4.out)).mono ?_
            rintro e w6 ⟨rfl, h6, hc6⟩
            have hw4 := HWR.out
            have hft6 := fun k (hk : FootC (w.heap.size + 1 + 1 + 1) (w.heap.size + 1) (w.heap.size + 1 + 1) L k) => foot_pin (q := w2.heap.size) HL.out hw2a hk
            have hb6 := (HBX.out.chg HC4.out (by simp)).chg hc6 (fun hk => by have := hft6 _ hk; omega)
            have hk6 := (HKX.out.chg HC4.out (by simp)).chg hc6 (fun hk => (hft6 _ hk).2 rfl)
            have hcw6 := (HCC.out.then HC4.out).ownC hc6 (fun k hk => by have := hft6 _ hk; omega)
            have hL6 : ∀ y ∈ (shrink L B (N k)).2.1, w2.heap.size < y.id := fun y hy => HL.out y ((shrink_sub _ _ _).subset hy)
            have hP6 := HP.out.shrink HC.out.ring.apart B (N k)
            clear hc6 hft6
            generalize (shrink L B (N k)).1 = r6
            generalize (shrink L B (N k)).2.1 = L6 at h6 hL6 hP6
            generalize (shrink L B (N k)).2.2 = B6 at h6
            obtain ⟨x, hx, e1, e2, e3, e4⟩ := hP6
            obtain ⟨A6, M6, rfl⟩ := List.append_of_mem hx
            have hget := cache_get_hit (w.heap.size + 1 + 1 + 1) (w.heap.size + 1) (w.heap.size + 1 + 1) A6 M6 x _ w6 h6
            rw [e1, e2, e3] at hget
            have k0 := hk6.cell 0
            have k1 := hk6.cell 1
            simp at k0 k1
            have HG := Lib.hid hget
            have HE := Lib.hid (And.intro e1 (And.intro e2 (And.intro e3 e4)))
            have HL6 := Lib.hid hL6
            have HB6 := Lib.hid hb6
            have HK6 := Lib.hid hk6
            have HCW6 := Lib.hid hcw6
            clear hget e1 e2 e3 e4 hL6 hb6 hk6 hcw6 h6 hx
            go_wp2_with fail
            refine HG.out.mono ?_
            rintro e w7 ⟨rfl, h7, hc7⟩
            have hft7 := fun k (hk : FootC (w.heap.size + 1 + 1 + 1) (w.heap.size + 1) (w.heap.size + 1 + 1) (A6 ++ x :: M6) k) => foot_pin (q := w2.heap.size) HL6.out hw2a hk
            have hb7 := HB6.out.chg hc7 (fun hk => by have := hft7 _ hk; omega)
            have hk7 := HK6.out.chg hc7 (fun hk => (hft7 _ hk).2 rfl)
            have hcw7 := HCW6.out.ownC hc7 (fun k hk => by have := hft7 _ hk; omega)
            have hL7 : ∀ y ∈ A6 ++ M6 ++ [x], w2.heap.size < y.id := fun y hy => HL6.out y (by simp at hy ⊢; rcases hy with h | h | h <;> simp [h])
            have hP7 : Pinned (A6 ++ M6 ++ [x]) f0 b0 s0 := ⟨x, by simp, HE.out⟩
            have z3 := hb7.cell 3
            simp at z3
            clear hc7 hft7
            have HH7 := Lib.hid (And.intro h7 (And.intro hL7 (And.intro hP7 (And.intro hb7 (And.intro hk7 hcw7)))))
            clear h7 hL7 hP7 hb7 hk7 hcw7 k0 k1
            go_wp2_with fail
            refine ⟨⟨k + 1, by omega, by go_num, _, _, HH7.out⟩, ?_⟩
            simp [intOf]; omega
          · by_cases hne : F k = f0
            · rw [hne] at HC4 HS4 x1
              clear hne
              have hc6 := HC4.out
              have h6' := HC.out.same hc6
              have hb6' := HBX.out.chg hc6 (by simp)
              have hk6' := HKX.out.chg hc6 (by simp)
              have hcw6' := HCC.out.then hc6
              have hL6 := HL.out
              have hP6 := HP.out
              have k0 := hk6'.cell 0
              have k1 := hk6'.cell 1
              simp at k0 k1
              have j0 := HKX.out.cell 0
              have j1 := HKX.out.cell 1
              simp at j0 j1
              have H6 := Lib.hid h6'
              have HB6' := Lib.hid hb6'
              have HK6' := Lib.hid hk6'
              have HCW6' := Lib.hid hcw6'
              have HL6' := Lib.hid hL6
              obtain ⟨x, hx, e1, e2, e3, e4⟩ := hP6
              obtain ⟨A6, M6, rfl⟩ := List.append_of_mem hx
              have hget := cache_get_hit (w.heap.size + 1 + 1 + 1) (w.heap.size + 1) (w.heap.size + 1 + 1) A6 M6 x _ _ h6'
              rw [e1, e2, e3] at hget
              have HG := Lib.hid hget
              have HE := Lib.hid (And.intro e1 (And.intro e2 (And.intro e3 e4)))
              clear hget e1 e2 e3 e4 hL6 hb6' hk6' hcw6' h6' hx hc6
              go_wp2_with fail
              clear x0 x1 x2 x3 x4 j0 j1
              refine HG.out.mono ?_
              rintro e w7 ⟨rfl, h7, hc7⟩
              have hft7 := fun k (hk : FootC (w.heap.size + 1 + 1 + 1) (w.heap.size + 1) (w.heap.size + 1 + 1) (A6 ++ x :: M6) k) => foot_pin (q := w2.heap.size) HL6'.out hw2a hk
              have hb7 := HB6'.out.chg hc7 (fun hk => by have := hft7 _ hk; omega)
              have hk7 := HK6'.out.chg hc7 (fun hk => (hft7 _ hk).2 rfl)
              have hcw7 := HCW6'.out.ownC hc7 (fun k hk => by have := hft7 _ hk; omega)
              have hL7 : ∀ y ∈ A6 ++ M6 ++ [x], w2.heap.size < y.id := fun y hy => HL6'.out y (by simp at hy ⊢; rcases hy with h | h | h <;> simp [h])
              have hP7 : Pinned (A6 ++ M6 ++ [x]) f0 b0 s0 := ⟨x, by simp, HE.out⟩
              have z3 := hb7.cell 3
              simp at z3
              clear hc7 hft7
              have HH7 := Lib.hid (And.intro h7 (And.intro hL7 (And.intro hP7 (And.intro hb7 (And.intro hk7 hcw7)))))
              clear h7 hL7 hP7 hb7 hk7 hcw7 k0 k1
              go_wp2_with fail
              refine ⟨⟨k + 1, by omega, by go_num, _, _, HH7.out⟩, ?_⟩
              simp [intOf]; omega
            · go_wp2_with fail
              clear x0 x1 x2 x3 x4
              refine (cache_drop (w.heap.size + 1 + 1 + 1) (w.heap.size + 1) (w.heap.size + 1 + 1) L B (F k) _ (HC.out.same HC4.out)).mono ?_
              rintro e w6 ⟨rfl, h6, hc6⟩
              have hw4 := HWR.out
              have hft6 := fun k (hk : FootC (w.heap.size + 1 + 1 + 1) (w.heap.size + 1) (w.heap.size + 1 + 1) L k) => foot_pin (q := w2.heap.size) HL.out hw2a hk
              have hb6 := (HBX.out.chg HC4.out (by simp)).chg hc6 (fun hk => by have := hft6 _ hk; omega)
              have hk6 := (HKX.out.chg HC4.out (by simp)).chg hc6 (fun hk => (hft6 _ hk).2 rfl)
              have hcw6 := (HCC.out.then HC4.out).ownC hc6 (fun k hk => by have := hft6 _ hk; omega)
              have hL6 : ∀ y ∈ rem L (ofFile (F k) L), w2.heap.size < y.id := fun y hy => HL.out y ((rem_sub _ _).subset hy)
              have hP6 := HP.out.drop HC.out.ring.apart hne
              clear hc6 hft6
              generalize rem L (ofFile (F k) L) = L6 at h6 hL6 hP6
              generalize bdrop B (ofFile (F k) L) = B6 at h6
              obtain ⟨x, hx, e1, e2, e3, e4⟩ := hP6
              obtain ⟨A6, M6, rfl⟩ := List.append_of_mem hx
              have hget := cache_get_hit (w.heap.size + 1 + 1 + 1) (w.heap.size + 1) (w.heap.size + 1 + 1) A6 M6 x _ w6 h6
              rw [e1, e2, e3] at hget
              have k0 := hk6.cell 0
              have k1 := hk6.cell 1
              simp at k0 k1
              have HG := Lib.hid hget
              have HE := Lib.hid (And.intro e1 (And.intro e2 (And.intro e3 e4)))
              have HL6 := Lib.hid hL6
              have HB6 := Lib.hid hb6
              have HK6 := Lib.hid hk6
              have HCW6 := Lib.hid hcw6
              clear hget e1 e2 e3 e4 hL6 hb6 hk6 hcw6 h6 hx
              go_wp2_with fail
              refine HG.out.mono ?_
              rintro e w7 ⟨rfl, h7, hc7⟩
              have hft7 := fun k (hk : FootC (w.heap.size + 1 + 1 + 1) (w.heap.size + 1) (w.heap.size + 1 + 1) (A6 ++ x :: M6) k) => foot_pin (q := w2.heap.size) HL6.out hw2a hk
              have hb7 := HB6.out.chg hc7 (fun hk => by have := hft7 _ hk; omega)
              have hk7 := HK6.out.chg hc7 (fun hk => (hft7 _ hk).2 rfl)
              have hcw7 := HCW6.out.ownC hc7 (fun k hk => by have := hft7 _ hk; omega)
              have hL7 : ∀ y ∈ A6 ++ M6 ++ [x], w2.heap.size < y.id := fun y hy => HL6.out y (by simp at hy ⊢; rcases hy with h | h | h <;> simp [h])
              have hP7 : Pinned (A6 ++ M6 ++ [x]) f0 b0 s0 := ⟨x, by simp, HE.out⟩
              have z3 := hb7.cell 3
              simp at z3
              clear hc7 hft7
              have HH7 := Lib.hid (And.intro h7 (And.intro hL7 (And.intro hP7 (And.intro hb7 (And.intro hk7 hcw7)))))
              clear h7 hL7 hP7 hb7 hk7 hcw7 k0 k1
              go_wp2_with fail
              refine ⟨⟨k + 1, by omega, by go_num, _, _, HH7.out⟩, ?_⟩
              simp [intOf]; omega
          · by_cases hne : F k = f0
            · rw [hne] at HC4 HS4 x1
              clear hne
              have hc6 := HC4.out
              have h6' := HC.out.same hc6
              have hb6' := HBX.out.chg hc6 (by simp)
              have hk6' := HKX.out.chg hc6 (by simp)
              have hcw6' := HCC.out.then hc6
              have hL6 := HL.out
              have hP6 := HP.out
              have k0 := hk6'.cell 0
              have k1 := hk6'.cell 1
              simp at k0 k1
              have j0 := HKX.out.cell 0
              have j1 := HKX.out.cell 1
              simp at j0 j1
              have H6 := Lib.hid h6'
              have HB6' := Lib.hid hb6'
              have HK6' := Lib.hid hk6'
              have HCW6' := Lib.hid hcw6'
              have HL6' := Lib.hid hL6
              obtain ⟨x, hx, e1, e2, e3, e4⟩ := hP6
              obtain ⟨A6, M6, rfl⟩ := List.append_of_mem hx
              have hget := cache_get_hit (w.heap.size + 1 + 1 + 1) (w.heap.size + 1) (w.heap.size + 1 + 1) A6 M6 x _ _ h6'
              rw [e1, e2, e3] at hget
              have HG := Lib.hid hget
              have HE := Lib.hid (And.intro e1 (And.intro e2 (And.intro e3 e4)))
              clear hget e1 e2 e3 e4 hL6 hb6' hk6' hcw6' h6' hx hc6
              go_wp2_with fail
              clear x0 x1 x2 x3 x4 j0 j1
              refine HG.out.mono ?_
              rintro e w7 ⟨rfl, h7, hc7⟩
              have hft7 := fun k (hk : FootC (w.heap.size + 1 + 1 + 1) (w.heap.size + 1) (w.heap.size + 1 + 1) (A6 ++ x :: M6) k) => foot_pin (q := w2.heap.size) HL6'.out hw2a hk
              have hb7 := HB6'.out.chg hc7 (fun hk => by have := hft7 _ hk; omega)
              have hk7 := HK6'.out.chg hc7 (fun hk => (hft7 _ hk).2 rfl)
              have hcw7 := HCW6'.out.ownC hc7 (fun k hk => by have := hft7 _ hk; omega)
              have hL7 : ∀ y ∈ A6 ++ M6 ++ [x], w2.heap.size < y.id := fun y hy => HL6'.out y (by simp at hy ⊢; rcases hy with h | h | h <;> simp [h])
              have hP7 : Pinned (A6 ++ M6 ++ [x]) f0 b0 s0 := ⟨x, by simp, HE.out⟩
              have z3 := hb7.cell 3
              simp at z3
              clear hc7 hft7
              have HH7 := Lib.hid (And.intro h7 (And.intro hL7 (And.intro hP7 (And.intro hb7 (And.intro hk7 hcw7)))))
              clear h7 hL7 hP7 hb7 hk7 hcw7 k0 k1
              go_wp2_with fail
              refine ⟨⟨k + 1, by omega, by go_num, _, _, HH7.out⟩, ?_⟩
              simp [intOf]; omega
            · go_wp2_with fail
              clear x0 x1 x2 x3 x4
              refine (cache_drop (w.heap.size + 1 + 1 + 1) (w.heap.size + 1) (w.heap.size + 1 + 1) L B (F k) _ (HC.out.same HC4.out)).mono ?_
              rintro e w6 ⟨rfl, h6, hc6⟩
              have hw4 := HWR.out
              have hft6 := fun k (hk : FootC (w.heap.size + 1 + 1 + 1) (w.heap.size + 1) (w.heap.size + 1 + 1) L k) => foot_pin (q := w2.heap.size) HL.out hw2a hk
              have hb6 := (HBX.out.chg HC4.out (by simp)).chg hc6 (fun hk => by have := hft6 _ hk; omega)
              have hk6 := (HKX.out.chg HC4.out (by simp)).chg hc6 (fun hk => (hft6 _ hk).2 rfl)
              have hcw6 := (HCC.out.then HC4.out).ownC hc6 (fun k hk => by have := hft6 _ hk; omega)
              have hL6 : ∀ y ∈ rem L (ofFile (F k) L), w2.heap.size < y.id := fun y hy => HL.out y ((rem_sub _ _).subset hy)
              have hP6 := HP.out.drop HC.out.ring.apart hne
              clear hc6 hft6
              generalize rem L (ofFile (F k) L) = L6 at h6 hL6 hP6
              generalize bdrop B (ofFile (F k) L) = B6 at h6
              obtain ⟨x, hx, e1, e2, e3, e4⟩ := hP6
              obtain ⟨A6, M6, rfl⟩ := List.append_of_mem hx
              have hget := cache_get_hit (w.heap.size + 1 + 1 + 1) (w.heap.size + 1) (w.heap.size + 1 + 1) A6 M6 x _ w6 h6
              rw [e1, e2, e3] at hget
              have k0 := hk6.cell 0
              have k1 := hk6.cell 1
              simp at k0 k1
              have HG := Lib.hid hget
              have HE := Lib.hid (And.intro e1 (And.intro e2 (And.intro e3 e4)))
              have HL6 := Lib.hid hL6
              have HB6 := Lib.hid hb6
              have HK6 := Lib.hid hk6
              have HCW6 := Lib.hid hcw6
              clear hget e1 e2 e3 e4 hL6 hb6 hk6 hcw6 h6 hx
              go_wp2_with fail
              refine HG.out.mono ?_
              rintro e w7 ⟨rfl, h7, hc7⟩
              have hft7 := fun k (hk : FootC (w.heap.size + 1 + 1 + 1) (w.heap.size + 1) (w.heap.size + 1 + 1) (A6 ++ x :: M6) k) => foot_pin (q := w2.heap.size) HL6.out hw2a hk
              have hb7 := HB6.out.chg hc7 (fun hk => by have := hft7 _ hk; omega)
              have hk7 := HK6.out.chg hc7 (fun hk => (hft7 _ hk).2 rfl)
              have hcw7 := HCW6.out.ownC hc7 (fun k hk => by have := hft7 _ hk; omega)
              have hL7 : ∀ y ∈ A6 ++ M6 ++ [x], w2.heap.size < y.id := fun y hy => HL6.out y (by simp at hy ⊢; rcases hy with h | h | h <;> simp [h])
              have hP7 : Pinned (A6 ++ M6 ++ [x]) f0 b0 s0 := ⟨x, by simp, HE.out⟩
              have z3 := hb7.cell 3
              simp at z3
              clear hc7 hft7
              have HH7 := Lib.hid (And.intro h7 (And.intro hL7 (And.intro hP7 (And.intro hb7 (And.intro hk7 hcw7)))))
              clear h7 hL7 hP7 hb7 hk7 hcw7 k0 k1
              go_wp2_with fail
              refine ⟨⟨k + 1, by omega, by go_num, _, _, HH7.out⟩, ?_⟩
              simp [intOf]; omega
        · have HC := Lib.hid hcc
          clear hcc hC HR hL hP hbx hkx
          have hge : ¬ ((k : Int) < (q : Int)) := by omega
          first
            | (have hqe : q = n := by omega
               have hge2 : ¬ ((k : Int) < (n : Int)) := by omega
               clear hq3 hqe
               go_wp2_with fail
               refine (cache_wakes _).mono ?_)
            | (have hge2 : ¬ ((k : Int) < 60) := by omega
               clear hq3
               go_wp2_with fail
               refine (cache_wakes _).mono ?_)
          rintro e w' ⟨rfl, hc⟩
          go_wp2_with fail
          go_ret
          exact ⟨rfl, HC.out.then hc⟩
end Go.Proofs.Ytafdgncjfiiekaa
