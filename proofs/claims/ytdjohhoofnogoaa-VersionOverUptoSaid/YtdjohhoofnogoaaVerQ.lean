/-
  The walk of VersionLevels.
-/
import Derived.Test.YtdjohhoofnogoaaVerL
import Derived.Test.YtdjohhoofnogoaaVerE
import Derived.IntWalk
namespace Go.Proofs.Ytdjohhoofnogoaa
open Go.RowKit
set_option linter.unusedVariables false
set_option linter.unusedSimpArgs false

theorem upTo_pre (f : Nat → List MetaV) : ∀ {k n : Nat}, k ≤ n → (upTo f k) <+: (upTo f n)
  | k, 0, h => by
    obtain rfl : k = 0 := by omega
    exact List.prefix_refl _
  | k, n + 1, h => by
    by_cases e : k = n + 1
    · subst e; exact List.prefix_refl _
    · rw [upTo_succ]
      exact (upTo_pre f (show k ≤ n by omega)).trans (List.prefix_append _ _)
theorem lev_new {S : VerV} (h : Good S) {k : Nat} (hk : k < 4) {A B : List MetaV} {x : MetaV} (e : S.lv k = A ++ x :: B) : x.file ∉ upTo S.lv k ++ A.map (·.file) := by
  have h1 : (upTo S.lv (k + 1)).Nodup := by
    have := h.files
    rw [flat_eq, ← upTo_all] at this
    exact this.sublist (upTo_pre S.lv (show k + 1 ≤ 4 by omega)).sublist
  rw [upTo_succ, e, List.map_append, List.map_cons, ← List.append_assoc] at h1
  have h2 := (List.nodup_append.1 h1).2.2
  intro hm
  exact h2 _ hm _ (by simp) rfl
theorem lev_ends {S : VerV} (h : Fine S) {k : Nat} (hk : k < 4) {A B : List MetaV} {x : MetaV} (e : S.lv k = A ++ x :: B) : I64 x.file ∧ 0 ≤ x.file ∧ x.file < S.next ∧ sl x.hi x.lo = false := by
  obtain ⟨h1, h2, h3⟩ := h.good.ends k hk x (by rw [e]; simp)
  have := h.nx
  unfold I64 at *
  exact ⟨⟨by omega, by omega⟩, h2, h3, h1⟩
theorem lev_first {S : VerV} (h : Good S) {A B : List MetaV} {y x : MetaV} (e : S.lv 0 = A ++ [y] ++ x :: B) : x.file < y.file := by
  have := h.zero
  rw [e] at this
  exact (List.pairwise_append.1 this).2.2 y (by simp) x (by simp)
theorem lev_rest {S : VerV} (h : Good S) {k : Nat} (h1 : 1 ≤ k) (h4 : k < 4) {A B : List MetaV} {y x : MetaV} (e : S.lv k = A ++ [y] ++ x :: B) : sl y.hi x.lo = true := by
  have := h.rest k h1 h4
  rw [e] at this
  exact (List.pairwise_append.1 this).2.2 y (by simp) x (by simp)

set_option maxRecDepth 1000000 in
set_option maxHeartbeats 8000000 in
theorem ver_levels (A : Option Addr) (n c : Nat) (Ed : Nat → EditV) (w : World) (hn : n ≤ c) (hc : c ≤ maxLen) (hE : EdsAt w A n Ed) (hF : ∀ i, i < n → EdFine (Ed i)) :
    Calls Try.prog 4 #[.slice A n c] w fun e w' => e = .returned (.bool true) ∧ Chg (fun _ => False) w w' := by
  have hmm : ∀ w : World, (Instr.makeMap 51 none).run Try.prog w = .ok (.map (some w.heap.size)) (w.alloc (.map #[] 0)) := fun w => run_makeMap 51 w
  have ha := law_after A n c Ed w hn hc hE hF
  have HA := Lib.hid ha
  clear ha hE hF
  go_enter Try.func4, Try.ntmps4
  go_wp2_with fail
  refine HA.out.mono ?_
  rintro e w2 ⟨S, a0, a1, a2, a3, av, n0, n1, n2, n3, nv, c0, c1, c2, c3, cv, hFine, hlen, rfl, hV, hR, hc2⟩
  obtain ⟨w3, hw3⟩ : ∃ w3, w3 = ((w2.alloc (.cells #[.slice a0 n0 c0, .slice a1 n1 c1, .slice a2 n2 c2, .slice a3 n3 c3, .int .i64 S.log, .int .i64 S.next, .int .i64 S.seq] 26)).alloc (.cells #[.slice av nv cv, .int .i64 S.log, .int .i64 S.next, .int .i64 S.seq] 29)).alloc (.map #[] 0) := ⟨_, rfl⟩
  have hc3 : Chg (fun _ => False) w2 w3 := by rw [hw3]; ((repeat (first | exact Chg.refl _ _ | assumption | refine Chg.drewN ?_ _ | refine Chg.drew ?_ | refine Chg.alloc ?_ _ | refine Chg.setCell ?_ (by first | (simp; done) | (simp; omega) | (intro h; simp at h; omega)) _)))
  have hb : Blk w3 w2.heap.size 26 #[.slice a0 n0 c0, .slice a1 n1 c1, .slice a2 n2 c2, .slice a3 n3 c3, .int .i64 S.log, .int .i64 S.next, .int .i64 S.seq] := by rw [hw3]; exact ((Blk.new w2 _ _).alloc _).alloc _
  have hm : CntAt w3 (w2.heap.size + 1 + 1) fun y => (upTo S.lv 0).count y := by
    rw [hw3]
    have := CntAt.new ((w2.alloc (.cells #[.slice a0 n0 c0, .slice a1 n1 c1, .slice a2 n2 c2, .slice a3 n3 c3, .int .i64 S.log, .int .i64 S.next, .int .i64 S.seq] 26)).alloc (.cells #[.slice av nv cv, .int .i64 S.log, .int .i64 S.next, .int .i64 S.seq] 29))
    simpa [upTo] using this
  have y0 := hb.cell 0
  have y1 := hb.cell 1
  have y2 := hb.cell 2
  have y3 := hb.cell 3
  simp at y0 y1 y2 y3
  have hlt3 := hb.lt
  have hltm := hm.lt
  have hsz2 := hc2.size
  have HW3 := Lib.hid hw3
  have HM3 := Lib.hid hm
  have HB3 := Lib.hid hb
  have HC3 := Lib.hid (hc2.then hc3)
  have HC23 := Lib.hid hc3
  have HV := Lib.hid hV
  have HFINE := Lib.hid hFine
  have HLEN := Lib.hid hlen
  have HIX := Lib.hid (fun (k : Nat) (hk : k < 4) (w : World) => show (Instr.index 24 (.agg #[.slice a0 n0 c0, .slice a1 n1 c1, .slice a2 n2 c2, .slice a3 n3 c3]) (.int .i64 (k : Int))).run Try.prog w = .ok (Lv (.slice a0 n0 c0) (.slice a1 n1 c1) (.slice a2 n2 c2) (.slice a3 n3 c3) k) w from run_index4 (Lv (.slice a0 n0 c0) (.slice a1 n1 c1) (.slice a2 n2 c2) (.slice a3 n3 c3)) hk w)
  clear hw3 hm hb hc3 hc2 hV hR hFine hlen HA
  go_upto_region 3 with fail
  rw [← HW3.out]
  clear hmm
  go_wp2_with fail
  go_loopw [18] (fun i wr => ∃ k : Nat, k ≤ 4 ∧ i = .int .i64 k ∧ CntAt wr (w2.heap.size + 1 + 1) (fun y => (upTo S.lv k).count y) ∧ Chg (fun j => j = w2.heap.size + 1 + 1) w3 wr) (fun i _ => 4 - (intOf i).toNat)
  case atStart => exact ⟨0, by omega, rfl, HM3.out, Chg.refl _ _⟩
  case round =>
    obtain ⟨k, hk4, rfl, hM, hcr⟩ := hrel
    by_cases hlt : k < 4
    · have hix := HIX.out k hlt
      obtain ⟨la, lc, hL, hlc, hln, hread⟩ := meta_form (HV.out k hlt)
      rw [hL] at hix
      have hnk := lv_len S k hlt
      have hlt' : (k : Int) < 4 := by omega
      have HR := Lib.hid hread
      have HL := Lib.hid hL
      have HCR := Lib.hid hcr
      have HM := Lib.hid hM
      obtain ⟨wo, hwo⟩ : ∃ wo : World, wo = wr := ⟨_, rfl⟩
      subst hwo
      clear hread hL hcr hM
      go_wp2_with fail
      go_loopw [24] (fun i wr => ∃ A R, S.lv k = A ++ R ∧ i = .int .i64 A.length ∧ CntAt wr (w2.heap.size + 1 + 1) (fun y => (upTo S.lv k ++ A.map (·.file)).count y) ∧ Chg (fun j => j = w2.heap.size + 1 + 1) w3 wr) (fun i _ => (S.lv k).length - (intOf i).toNat)
      case atStart => exact ⟨[], S.lv k, rfl, rfl, by simpa using HM.out, HCR.out⟩
      case round =>
        obtain ⟨A, R, hfk, rfl, hM2, hcr2⟩ := hrel
        have hAl : A.length ≤ (S.lv k).length := by rw [hfk]; simp
        have hcs := hcr2.size
        cases R with
        | nil =>
          have hge : ¬ ((A.length : Int) < ((S.lv k).length : Int)) := by rw [hfk]; simp
          have hend : upTo S.lv (k + 1) = upTo S.lv k ++ A.map (·.file) := by rw [upTo_succ, hfk]; simp
          have HE := Lib.hid hend
          have HC2 := Lib.hid hcr2
          have HM2 := Lib.hid hM2
          clear hfk hcr2 hM2 hend
          go_wp2_with fail
          go_roundw
          case rel => exact ⟨k + 1, by omega, by go_num, by rw [HE.out]; exact HM2.out, HC2.out⟩
          case measure => simp [intOf]; omega
        | cons x B =>
          obtain ⟨b, rfl, hb, hown, z0, z1, z2, z3⟩ := HR.out A x B hfk
          have hnew := lev_new HFINE.out.good hlt hfk
          obtain ⟨hi64, h0, hnx, hsl⟩ := lev_ends HFINE.out hlt hfk
          have hfar : ¬ b = w2.heap.size + 1 + 1 := by omega
          have hc2r : ∀ {p : Addr} {v : Value}, w2.cell? p = some v → wr.cell? p = some v := fun {p} {v} h => by
            have hp := World.block_lt_of_cell? w2 p h
            have h3 := (HC23.out.cell (p := p) hp (by simp)).trans h
            exact (hcr2.cell (p := p) (Nat.lt_of_lt_of_le hp HC23.out.size) (by omega)).trans h3
          have z0 := hc2r z0
          have z1 := hc2r z1
          have z2 := hc2r z2
          have z3 := hc2r z3
          obtain ⟨w5, hw5⟩ : ∃ w5, w5 = wr.alloc (.cells #[.int .i64 x.file, .int .i64 x.size, .string x.lo, .string x.hi] 53) := ⟨_, rfl⟩
          have hc5 : Chg (fun _ => False) wr w5 := by rw [hw5]; ((repeat (first | exact Chg.refl _ _ | assumption | refine Chg.drewN ?_ _ | refine Chg.drew ?_ | refine Chg.alloc ?_ _ | refine Chg.setCell ?_ (by first | (simp; done) | (simp; omega) | (intro h; simp at h; omega)) _)))
          have bx : Blk w5 wr.heap.size 53 #[.int .i64 x.file, .int .i64 x.size, .string x.lo, .string x.hi] := by rw [hw5]; exact Blk.new _ _ _
          have hM5 := hM2.same hc5
          have hlk := hM5.look hi64
          obtain ⟨w6, hup, hM6, hc6, hs6⟩ := hM5.bump hi64
          have hlk6 := hM6.look hi64
          have hcnt : (upTo S.lv k ++ A.map (·.file)).count x.file = 0 := List.count_eq_zero.2 hnew
          have hbmp : bump (fun y => (upTo S.lv k ++ A.map (·.file)).count y) x.file = fun y => (upTo S.lv k ++ (A ++ [x]).map (·.file)).count y := by
            rw [bump_count]; simp
          have hone : bump (fun y => (upTo S.lv k ++ A.map (·.file)).count y) x.file x.file = 1 := by
            unfold bump
            rw [if_pos rfl]
            show (upTo S.lv k ++ A.map (·.file)).count x.file + 1 = 1
            rw [hcnt]
          rw [hcnt, show ((0 : Nat) : Int) = 0 from rfl] at hlk hup
          rw [Int.zero_add] at hup
          rw [hone, show ((1 : Nat) : Int) = 1 from rfl] at hlk6
          rw [hbmp] at hM6
          have hxm : ¬ wr.heap.size = w2.heap.size + 1 + 1 := by have := hM2.lt; omega
          have bx6 := bx.chg hc6 hxm
          have c36 : Chg (fun j => j = w2.heap.size + 1 + 1) w3 w6 := (hcr2.trans hc5 (fun _ _ e => e.elim)).then hc6
          have i0 := bx6.cell 0
          have i1 := bx6.cell 1
          have i2 := bx6.cell 2
          have i3 := bx6.cell 3
          have i50 := bx.cell 0
          have b6 := (HB3.out.chg c36 (by omega)).cell 5
          simp at i0 i1 i2 i3 b6 i50
          have hge : (0 : Int) ≤ (A.length : Int) := by omega
          have hlt2 : (A.length : Int) < ((S.lv k).length : Int) := by rw [hfk]; simp; omega
          have hf2 : S.lv k = (A ++ [x]) ++ B := by rw [hfk]; simp
          have hg1 : Op.bytesLess x.hi.toList x.lo.toList = false := hsl
          have HF2 := Lib.hid hf2
          have HFK := Lib.hid hfk
          have HM6 := Lib.hid hM6
          have HC36 := Lib.hid c36
          have HW5 := Lib.hid hw5
          have HLIFT := Lib.hid (fun (p : Addr) (v : Value) (h : w2.cell? p = some v) => show w6.cell? p = some v by
            have h5 := (hc5.cell (p := p) (World.block_lt_of_cell? wr p (hc2r h)) (by simp)).trans (hc2r h)
            exact (hc6.cell (p := p) (World.block_lt_of_cell? w5 p h5) (by have := World.block_lt_of_cell? w2 p h; omega)).trans h5)
          have hltA : A.length < (S.lv k).length := by omega
          clear hf2 hM6 c36 hw5 bx bx6 hc5 hM5 hc2r hcr2 hM2 hnew hcnt hbmp hone hc6 hsl hfar
          clear hfk
          obtain ⟨a, ha⟩ : ∃ a, A.length = a := ⟨_, rfl⟩
          rw [ha] at hge hlt2 hltA z0 z1 z2 z3 ⊢
          have HAL := Lib.hid ha
          clear ha
          go_upto_region 9 with fail
          rw [← HW5.out]
          go_upto_region 12 with fail
          · exfalso
            rename_i h
            have hq := sl_leq x.lo x.hi
            unfold sl at hq
            rw [hg1] at hq
            rcases h with h | ⟨h1, h2⟩
            · omega
            · simp at h1 h2 hq
              rw [h1] at hq
              simp at hq
              exact h2 hq
          go_cut [93] (fun c wx => c = .bool false ∧ ∃ nq, w6.drewN nq = wx)
          case first =>
            have hHFK := HFK.out
            rcases List.eq_nil_or_concat A with rfl | ⟨A', y, hA⟩
            · have ha0 : a = 0 := by have := HAL.out; simpa using this.symm
              have d1 : decide ((0 : Int) < (a : Int)) = false := by subst ha0; rfl
              have d2 : decide (0 < a) = false := by subst ha0; rfl
              clear hHFK ha0
              go_quiet (fail)
              go_wp2_with fail
              go_meet
              exact ⟨rfl, _, rfl⟩
            · rw [hA, List.concat_eq_append] at hHFK
              have ham : a = A'.length + 1 := by rw [← HAL.out, hA]; simp
              obtain ⟨b', hb', _, _, y0', y1', y2', y3'⟩ := HR.out A' y (x :: B) (by rw [hHFK]; simp)
              have y0 := HLIFT.out _ _ y0'
              have y3 := HLIFT.out _ _ y3'
              injection hb' with hb'
              injection hb' with hb'
              subst hb'
              have hidx : ((a : Int) - 1) = (A'.length : Int) := by omega
              have hwr : IntKind.i64.wrap ((a : Int) - 1) = (A'.length : Int) := by rw [hidx]; exact IntWalk.i64_in _ (by omega)
              have g0 : (0 : Int) ≤ (A'.length : Int) := by omega
              have g1 : (A'.length : Int) < ((S.lv k).length : Int) := by omega
              have g2 : (A'.length : Int).toNat = A'.length := by omega
              have d1 : decide ((0 : Int) < (a : Int)) = true := by simp; omega
              have d2 : decide (0 < a) = true := by simp; omega
              clear y0' y1' y2' y3'
              by_cases hk0 : k = 0
              · have e1 : ((k : Int) == 0) = true := by simp [hk0]
                have e2 : decide ((0 : Int) < (k : Int)) = false := by simp [hk0]
                have e3 : decide (0 < k) = false := by simp [hk0]
                have e4 : (k == 0) = true := by simp [hk0]
                have hfile : x.file < y.file := lev_first HFINE.out.good (A := A') (B := B) (by rw [← hk0, hHFK])
                have f1 : decide (y.file ≤ x.file) = false := by simp; omega
                clear hHFK ham hidx hk0 hfile
                go_quiet (fail)
                go_wp2_with fail
                go_meet
                exact ⟨rfl, _, rfl⟩
              · have e1 : ((k : Int) == 0) = false := by simp; omega
                have e2 : decide ((0 : Int) < (k : Int)) = true := by simp; omega
                have e3 : decide (0 < k) = true := by simp; omega
                have e4 : (k == 0) = false := by simp; omega
                have hfile : sl y.hi x.lo = true := lev_rest HFINE.out.good (by omega) hlt (A := A') (B := B) hHFK
                have f1 : Op.bytesLess y.hi.toList x.lo.toList = true := hfile
                clear hHFK ham hidx hk0 hfile
                go_quiet (fail)
                go_wp2_with fail
                go_meet
                exact ⟨rfl, _, rfl⟩
          case rest =>
            obtain ⟨rfl, nq, rfl⟩ := hcut
            go_wp2_with fail
            refine ⟨⟨A ++ [x], B, HF2.out, by rw [List.length_append, HAL.out]; rfl, HM6.out.chg (S := fun _ => False) ((Chg.refl _ _).drewN _) (by simp), HC36.out.drewN _⟩, by simp [intOf]; omega⟩
    · obtain rfl : k = 4 := by omega
      have hwk := law_wakes wr
      have HWK := Lib.hid hwk
      have b1 := HB3.out.chg hcr (by omega)
      have HB1 := Lib.hid b1
      have HCF := Lib.hid (show Chg (fun _ => False) w wr from HC3.out.trans hcr fun k hk e => absurd hk (by have e : k = w2.heap.size + 1 + 1 := e; omega))
      clear hwk b1 hcr hM
      go_wp2_with fail
      refine HWK.out.mono ?_
      rintro e w9 ⟨rfl, hc9⟩
      have b9 := HB1.out.chg hc9 (by simp)
      have v4 := b9.cell 4
      have v5 := b9.cell 5
      simp at v4 v5
      have hnum := HFINE.out.good.nums
      have HCG := Lib.hid (HCF.out.then hc9)
      clear b9 hc9
      rcases hnum with hnum | ⟨hn1, hn2⟩
      · have hd : decide (S.log < S.next) = true := by simpa using hnum
        go_wp2_with fail
        go_ret
        exact ⟨rfl, HCG.out⟩
      · rw [hn1] at v4
        rw [hn2] at v5
        go_wp2_with fail
        go_ret
        exact ⟨rfl, HCG.out⟩
end Go.Proofs.Ytdjohhoofnogoaa
