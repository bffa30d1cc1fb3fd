/-
  The program's manifest: parts.
  The program's manifest: Add.
  The program's manifest: counts.
  The program's manifest: Start.
-/
import Derived.Test.YtljabmkmngbhkaaGreatDoorZMg35
import Derived.Test.YtljabmkmngbhkaaGreatDoorZVerT
import Derived.Deep.RegionHeld3
namespace Go.Proofs.YtljabmkmngbhkaaGreatDoor
open Go.RowKit
set_option linter.unusedVariables false
set_option linter.unusedSimpArgs false

theorem Lst.rows_ {w : World} {v : Value} {l : List PlaceV} (h : Lst placeC w v l) : ReadRows w v l := Lst.rows h
theorem ReadRows.pre {w : World} {a : Option Addr} {n c q : Nat} {l : List PlaceV} (h : ReadRows w (.slice a n c) l) (hq : q ≤ l.length) : ReadRows w (.slice a q c) (l.take q) := by
  obtain ⟨a', cap, e, h1, h2, h3⟩ := h
  injection e with e1 e2 e3
  subst e1 e3
  refine ⟨a, c, by rw [List.length_take, Nat.min_eq_left hq], by rw [List.length_take]; omega, by rw [List.length_take]; omega, fun A x B hl => ?_⟩
  have hl2 : l = A ++ x :: (B ++ l.drop q) := by
    rw [← List.cons_append, ← List.append_assoc, ← hl, List.take_append_drop]
  exact h3 A x _ hl2
theorem ReadRows.suf {w : World} {a : Option Addr} {n c q : Nat} {l : List PlaceV} (h : ReadRows w (.slice a n c) l) (hq : q ≤ l.length) : ReadRows w (.slice (if c = q then a else a.map (·.add (q * 5))) (n - q) (c - q)) (l.drop q) := by
  obtain ⟨a', cap, e, h1, h2, h3⟩ := h
  injection e with e1 e2 e3
  subst e1 e3 e2
  refine ⟨_, _, by rw [List.length_drop], by rw [List.length_drop]; omega, by rw [List.length_drop]; omega, fun A x B hl => ?_⟩
  have hl2 : l = (l.take q ++ A) ++ x :: B := by rw [List.append_assoc, ← hl, List.take_append_drop]
  have hlt : q < l.length := by
    have := congrArg List.length hl
    simp at this
    omega
  rw [if_neg (by omega)]
  obtain ⟨b, off, rfl, hb, z0, z1, z2, z3, z4⟩ := h3 _ x B hl2
  have e : ∀ j, off + q * 5 + A.length * 5 + j = off + (l.take q ++ A).length * 5 + j := fun j => by
    rw [List.length_append, List.length_take, Nat.min_eq_left hq]
    omega
  refine ⟨b, off + q * 5, by simp [Addr.add], hb, ?_, ?_, ?_, ?_, ?_⟩
  · have := e 0
    simp only [Nat.add_zero] at this
    rw [this]
    exact z0
  · rw [e]; exact z1
  · rw [e]; exact z2
  · rw [e]; exact z3
  · rw [e]; exact z4
theorem run_preP (A : Option Addr) (n c q : Nat) (hq : q ≤ c) (w : World) : (Instr.slice 155 (.slice A n c) none (some (.int .i64 (q : Int))) none).run Tryz.prog w = .ok (.slice A q c) w := by
  have h2 : (q : Int) ≤ (c : Int) := by omega
  have hs : (sizeOf (Tryz.prog.elem 155)).run Tryz.prog w = .ok 5 w := by kernel_rfl
  rw [run_slice_h w 155 A n c (by kernel_rfl) .i64 (q : Int) (by omega) h2, hs]
  cases A with
  | none => simp [Result.andThen, sliced]
  | some v =>
    have : v.add 0 = v := by
      obtain ⟨b, o, s⟩ := v
      cases s <;> simp [Addr.add]
    simp [Result.andThen, sliced, this]
theorem run_sufP (A : Option Addr) (n c q : Nat) (hq : q ≤ n) (w : World) : (Instr.slice 155 (.slice A n c) (some (.int .i64 (q : Int))) none none).run Tryz.prog w = .ok (.slice (if c = q then A else A.map (·.add (q * 5))) (n - q) (c - q)) w := by
  have hs : (sizeOf (Tryz.prog.elem 155)).run Tryz.prog w = .ok 5 w := by kernel_rfl
  rw [run_slice_l w 155 A n c (by kernel_rfl) .i64 (q : Int) (by omega) (by omega), hs]
  simp [Result.andThen, sliced]
def chunkV : Nat → List PlaceV → List (List PlaceV)
  | 0, _ => []
  | n + 1, l => l.take 256 :: (if l.drop 256 = [] then [] else chunkV n (l.drop 256))
def partE (S : VerV) (c : List PlaceV) : EditV := ⟨c, [], S.log, S.next, S.seq⟩
def partsV (S : VerV) : List EditV := (chunkV ((flat S).length + 1) (flat S)).map (partE S)
theorem chunk_fuel : ∀ (m n : Nat) (l : List PlaceV), l.length < m → l.length < n → chunkV m l = chunkV n l
  | 0, _, l, h, _ => by omega
  | _, 0, l, _, h => by omega
  | m + 1, n + 1, l, h1, h2 => by
    unfold chunkV
    split
    · rfl
    · rename_i hne
      have h0 : 0 < l.length := by
        cases l with
        | nil => simp at hne
        | cons a r => simp
      rw [chunk_fuel m n (l.drop 256) (by simp; omega) (by simp; omega)]
theorem chunk_len : ∀ (m : Nat) (l : List PlaceV), (chunkV m l).length ≤ m
  | 0, l => by simp [chunkV]
  | m + 1, l => by
    unfold chunkV
    have := chunk_len m (l.drop 256)
    split <;> simp <;> omega
def sliceLen (v : Value) : Nat := match v with | .slice _ n _ => n | _ => 0
def isNilS (v : Value) : Nat := match v with | .slice none _ _ => 1 | _ => 0
/-- How far parts has come: what is done, what is left. -/
def PartsAt (S : VerV) (X : List EdX) (R : List PlaceV) : Prop :=
  (X ≠ [] ∧ R = [] ∧ X.map (·.E) = partsV S) ∨ ((X = [] ∨ R ≠ []) ∧ X.map (·.E) ++ (chunkV (R.length + 1) R).map (partE S) = partsV S)
theorem PartsAt.start (S : VerV) : PartsAt S [] (flat S) := .inr ⟨.inl rfl, rfl⟩
theorem PartsAt.step {S : VerV} {X : List EdX} {R : List PlaceV} (h : PartsAt S X R) (hgo : X = [] ∨ R ≠ []) (x : EdX) (hx : x.E = partE S (R.take 256)) : PartsAt S (X ++ [x]) (R.drop 256) := by
  rcases h with ⟨h1, h2, _⟩ | ⟨_, h⟩
  · rcases hgo with h | h
    · exact absurd h h1
    · exact absurd h2 h
  · unfold chunkV at h
    by_cases hd : R.drop 256 = []
    · rw [if_pos hd] at h
      refine .inl ⟨by simp, hd, ?_⟩
      rw [List.map_append, List.map_cons, List.map_nil, hx]
      exact h
    · rw [if_neg hd] at h
      refine .inr ⟨.inr hd, ?_⟩
      have h0 : 0 < R.length := by
        cases R with
        | nil => simp at hd
        | cons a r => simp
      rw [List.map_append, List.map_cons, List.map_nil, hx, chunk_fuel ((R.drop 256).length + 1) R.length (R.drop 256) (by omega) (by simp; omega)]
      rw [List.map_cons] at h
      rw [← h]
      simp
theorem PartsAt.done {S : VerV} {X : List EdX} {R : List PlaceV} (h : PartsAt S X R) (h1 : X ≠ []) (h2 : R = []) : X.map (·.E) = partsV S := by
  rcases h with ⟨_, _, h⟩ | ⟨h, _⟩
  · exact h
  · rcases h with h | h
    · exact absurd h h1
    · exact absurd h2 h
theorem EdsIn.snoc {w : World} {X : List EdX} {x : EdX} (h : EdsIn w X) (hx : ReadRows w x.add x.E.add ∧ ReadInts w x.drop x.E.drop ∧ EdFit x.E) : EdsIn w (X ++ [x]) := fun y hy => by
  rcases List.mem_append.1 hy with hy | hy
  · exact h y hy
  · rw [List.mem_singleton.1 hy]; exact hx
theorem ReadInts.none_ (w : World) : ReadInts w (.slice none 0 0) [] := ⟨none, 0, rfl, by decide, by decide, fun h => absurd rfl h⟩
theorem eql_some (b n c : Nat) (W : World) : (binOp .eql 364 (.slice (some ⟨b, 0, none⟩) n c) (.slice none 0 0)).run Tryz.prog W = .ok (.bool false) W := by kernel_rfl
theorem eql_none (W : World) : (binOp .eql 364 (.slice none 0 0) (.slice none 0 0)).run Tryz.prog W = .ok (.bool true) W := by kernel_rfl
set_option maxRecDepth 100000 in
set_option maxHeartbeats 4000000 in
theorem ma_parts (l0 l1 l2 l3 : Value) (S : VerV) (w : World) (h : VerAt w (Lv l0 l1 l2 l3) S.lv) (hn : (flat S).length ≤ 41943040) (hfit : EdFit (wholeE S)) :
    Calls Tryz.prog 253 #[.agg #[l0, l1, l2, l3, .int .i64 S.log, .int .i64 S.next, .int .i64 S.seq]] w fun e w' => ∃ v X, e = .returned v ∧ Lst edC w' v X ∧ EdsIn w' X ∧ X.map (·.E) = partsV S ∧ (∀ k, v.ownBlock = some k → w.heap.size ≤ k) ∧ Chg (fun _ => False) w w' := by
  obtain ⟨w1, hw1⟩ : ∃ w1, w1 = w.alloc (.cells #[l0, l1, l2, l3, .int .i64 S.log, .int .i64 S.next, .int .i64 S.seq] 62) := ⟨_, rfl⟩
  have hc1 : Chg (fun _ => False) w w1 := by rw [hw1]; exact (Chg.refl _ _).alloc _
  have hb1 : Blk w1 w.heap.size 62 #[l0, l1, l2, l3, .int .i64 S.log, .int .i64 S.next, .int .i64 S.seq] := by rw [hw1]; exact Blk.new w _ _
  have y0 := hb1.cell 0
  have y1 := hb1.cell 1
  have y2 := hb1.cell 2
  have y3 := hb1.cell 3
  have y4 := hb1.cell 4
  have y5 := hb1.cell 5
  have y6 := hb1.cell 6
  simp at y0 y1 y2 y3 y4 y5 y6
  have hwh := ver_whole l0 l1 l2 l3 S w1 (h.same hc1) hn
  obtain ⟨F, hF⟩ : ∃ F, flat S = F := ⟨_, rfl⟩
  have hst := PartsAt.start S
  rw [hF] at hwh hn hst
  have HWH := Lib.hid hwh
  have HW1 := Lib.hid hw1
  have HC1 := Lib.hid hc1
  have HST := Lib.hid hst
  have HFIT := Lib.hid hfit
  have HF := Lib.hid hF
  clear hwh hw1 hc1 hb1 h hst hfit hF
  go_enter Tryz.func253, Tryz.ntmps253
  go_upto_region 1 with fail
  rw [← HW1.out]
  go_wp2_with fail
  refine HWH.out.mono ?_
  rintro e w2 ⟨fa, fc, rfl, hL, hc2⟩
  obtain ⟨w3, hw3⟩ : ∃ w3, w3 = w2.alloc (.cells #[.slice fa F.length fc, .slice none 0 0, .int .i64 S.log, .int .i64 S.next, .int .i64 S.seq] 157) := ⟨_, rfl⟩
  have hc3 : Chg (fun _ => False) w2 w3 := by rw [hw3]; exact (Chg.refl _ _).alloc _
  have hb3 : Blk w3 w2.heap.size 157 #[.slice fa F.length fc, .slice none 0 0, .int .i64 S.log, .int .i64 S.next, .int .i64 S.seq] := by rw [hw3]; exact Blk.new w2 _ _
  have y0 := hb3.cell 0
  simp at y0
  have hrows := (Lst.rows_ hL).same hc3
  have HW3 := Lib.hid hw3
  have HC3 := Lib.hid (HC1.out.then (hc2.then hc3))
  have HB3 := Lib.hid hb3
  have HRW := Lib.hid hrows
  have hw3s : w.heap.size ≤ w3.heap.size := HC3.out.size
  clear hw3 hc3 hb3 hrows hL hc2
  go_upto_region 3 with fail
  rw [← HW3.out]
  clear HW3
  go_wp2_with fail
  go_loopw [4, 5] (fun out rest wr => ∃ (X : List EdX) (R : List PlaceV) (oa ra : Option Addr) (oc rc : Nat), out = .slice oa X.length oc ∧ rest = .slice ra R.length rc ∧ Lst edC wr (.slice oa X.length oc) X ∧ (X = [] → oa = none ∧ oc = 0) ∧ (X ≠ [] → ∃ b, oa = some ⟨b, 0, none⟩) ∧ (∀ k, (Value.slice oa X.length oc).ownBlock = some k → w3.heap.size ≤ k) ∧ EdsIn w3 X ∧ ReadRows w3 (.slice ra R.length rc) R ∧ R.length ≤ F.length ∧ X.length + R.length ≤ F.length + 1 ∧ (∀ p ∈ R, p ∈ F) ∧ PartsAt S X R ∧ Chg (fun _ => False) w3 wr) (fun out rest _ => sliceLen rest + isNilS out)
  case atStart => exact ⟨[], F, none, fa, 0, fc, rfl, rfl, Lst.nil _ _, fun _ => ⟨rfl, rfl⟩, fun h => absurd rfl h, by simp [Value.ownBlock], fun x hx => by simp at hx, HRW.out, Nat.le_refl _, by simp, fun p hp => hp, HST.out, Chg.refl _ _⟩
  case round =>
    obtain ⟨X, R, oa, ra, oc, rc, rfl, rfl, hX, hX0, hX1, hXk, hE, hR, hRl, hXR, hRF, hP, hc⟩ := hrel
    by_cases hgo : X = [] ∨ R ≠ []
    · obtain ⟨q, hq⟩ : ∃ q : Nat, min 256 R.length = q := ⟨_, rfl⟩
      have hqr : q ≤ R.length := by omega
      have hqe : min (256 : Int) (R.length : Int) = (q : Int) := by omega
      have hrc : R.length ≤ rc := by
        obtain ⟨_, _, e, h1, _⟩ := hR
        injection e with e1 e2 e3
        omega
      have htk : R.take q = R.take 256 := by
        rw [← hq, List.take_eq_take_iff]
        simp
      have hdp : R.drop q = R.drop 256 := by
        by_cases h : R.length ≤ 256
        · rw [show q = R.length by omega, List.drop_length, List.drop_eq_nil_of_le h]
        · rw [show q = 256 by omega]
      have hpre := fun W => run_preP ra R.length rc q (by omega) W
      have hsuf := fun W => run_sufP ra R.length rc q hqr W
      rw [← hqe] at hpre hsuf
      have htest : decide ((0 : Int) < (R.length : Int)) = true ∨ (R = [] ∧ X = []) := by
        by_cases h : R = []
        · rcases hgo with e | e
          · exact .inr ⟨h, e⟩
          · exact absurd h e
        · exact .inl (by cases R with | nil => exact absurd rfl h | cons a r => simp)
      obtain ⟨g0, g1, g2, g3, g4⟩ : wr.cell? ⟨w2.heap.size, 0, none⟩ = some (.slice fa F.length fc) ∧ wr.cell? ⟨w2.heap.size, 1, none⟩ = some (.slice none 0 0) ∧ wr.cell? ⟨w2.heap.size, 2, none⟩ = some (.int .i64 S.log) ∧ wr.cell? ⟨w2.heap.size, 3, none⟩ = some (.int .i64 S.next) ∧ wr.cell? ⟨w2.heap.size, 4, none⟩ = some (.int .i64 S.seq) := by
        have hb := HB3.out.chg hc (by simp)
        exact ⟨hb.cell 0, hb.cell 1, hb.cell 2, hb.cell 3, hb.cell 4⟩
      have hltg : w2.heap.size < wr.heap.size := Nat.lt_of_lt_of_le HB3.out.lt hc.size
      have HX := Lib.hid hX
      have HX0 := Lib.hid hX0
      have HXK := Lib.hid hXk
      have HE := Lib.hid hE
      have HR := Lib.hid hR
      have HRF := Lib.hid hRF
      have HP := Lib.hid hP
      have HGO := Lib.hid hgo
      have HC := Lib.hid hc
      have HTK := Lib.hid htk
      have HDP := Lib.hid hdp
      clear hX hX0 hX1 hXk hE hR hRF hP hgo hc htk hdp
      have hdl : (R.drop q).length = R.length - q := List.length_drop
      have hRp : ReadRows w3 (.slice ra q rc) (R.take 256) := by rw [← HTK.out]; exact HR.out.pre hqr
      have hRs := HR.out.suf hqr
      have hRs1 : rc = q → ReadRows w3 (.slice ra (R.drop q).length 0) (R.drop q) := fun e => by rw [if_pos e, e, Nat.sub_self, ← hdl] at hRs; exact hRs
      have hRs2 : ¬ rc = q → ReadRows w3 (.slice (ra.map (·.add (q * 5))) (R.drop q).length (rc - q)) (R.drop q) := fun e => by rw [if_neg e, ← hdl] at hRs; exact hRs
      have hft : EdFit (partE S (R.take 256)) := by
        have hf := HFIT.out
        refine ⟨hf.log, hf.next, hf.seq, by simp [partE], fun p hp => hf.add p (by show p ∈ flat S; rw [HF.out]; exact HRF.out p (List.mem_of_mem_take hp)), ?_, by simp [partE]⟩
        show (R.take 256).length ≤ 50000000
        rw [List.length_take]
        omega
      have hg2 : 0 < R.length ∨ (X.length = 0 ∧ oa = none) := by
        rcases HGO.out with e | e
        · exact .inr ⟨by rw [e]; rfl, (HX0.out e).1⟩
        · exact .inl (by cases R with | nil => exact absurd rfl e | cons a r => simp)
      have HRP := Lib.hid hRp
      have HRS1 := Lib.hid hRs1
      have HRS2 := Lib.hid hRs2
      have HFT := Lib.hid hft
      have HQ := Lib.hid hq
      clear hRp hRs hRs1 hRs2 hft
      obtain ⟨n, hnR⟩ : ∃ n, R.length = n := ⟨_, rfl⟩
      rw [hnR] at hpre hsuf hq hqr hqe hrc htest hdl hRl hXR hg2 ⊢
      have HG2 := Lib.hid hg2
      clear hg2
      have HNR := Lib.hid hnR
      have HDL := Lib.hid hdl
      clear hnR hdl
      rcases htest with ht | ⟨h1, h2⟩
      case' inl =>
        have ht2 : decide (0 < n) = true := by simpa using ht
      case' inr =>
        have hn0 : n = 0 := by rw [← HNR.out, h1]; rfl
        have ht : decide ((0 : Int) < (n : Int)) = false := by rw [hn0]; rfl
        have ht2 : decide (0 < n) = false := by rw [hn0]; rfl
        have hcmp : ∀ W : World, (binOp .eql 364 (.slice oa X.length oc) (.slice none 0 0)).run Tryz.prog W = .ok (.bool true) W := fun W => by
          obtain ⟨e1, e2⟩ := HX0.out h2
          rw [e1, e2, h2]
          exact eql_none W
        clear hn0 h1 h2
      all_goals
        go_upto_region 7 with fail
        go_region
        go_wp2_with (at_builtin; refine wpList_lst_app edOk _ (by rfl) _ _ (by rfl) X _ ⟨partE S (R.take 256), ra, q, rc, none, 0, 0⟩ (by rfl) (HX.out.same cgR) _ (by rfl) (by omega) bnN ?_)
        all_goals
          intro v' w' hO' hcg hb'
          obtain ⟨va, vc, hve, _, _, hvr⟩ := hO'.form edOk
          obtain ⟨vb, hvb, _⟩ := hvr X _ [] rfl
          have hcw : Chg (fun _ => False) w3 w' := Chg.trans (by have := HC.out; exact cgR) hcg (fun k hk e => by have := HXK.out k e; omega)
          have hkk : ∀ k, v'.ownBlock = some k → w3.heap.size ≤ k := fun k hk => by
            have h3 := HC.out.size
            rcases hb' k hk with e | e
            · exact HXK.out k e
            · omega
          rw [List.length_append, List.length_singleton] at hve
          subst hvb
          subst hve
          have HO := Lib.hid hO'
          have HCW := Lib.hid hcw
          have HKK := Lib.hid hkk
          have HCG := Lib.hid hcg
          clear hO' hcg hb' hcw hkk hvr
          go_wp2_with fail
          go_roundw
          case rel =>
            have hpt : ∀ ac, PartsAt S (X ++ [⟨partE S (R.take 256), ra, q, ac, none, 0, 0⟩]) (R.drop q) := fun ac => by
              rw [HDP.out]
              exact HP.out.step HGO.out _ rfl
            have hq0 := HQ.out
            have hg0 := HG2.out
            have hes : ∀ ac, rc = ac → EdsIn w3 (X ++ [⟨partE S (R.take 256), ra, q, ac, none, 0, 0⟩]) := fun ac hac => by
              rw [← hac]
              exact EdsIn.snoc HE.out ⟨HRP.out, ReadInts.none_ _, HFT.out⟩
            first
            | exact ⟨X ++ [⟨partE S (R.take 256), ra, q, q, none, 0, 0⟩], R.drop q, some ⟨vb, 0, none⟩, ra, vc, 0, by simp, by rw [HDL.out], by (rw [List.length_append, List.length_singleton]; exact HO.out), fun e => absurd e (by simp), fun _ => ⟨vb, rfl⟩, by (rw [List.length_append, List.length_singleton]; exact HKK.out), hes q (by assumption), HRS1.out (by first | rfl | assumption), by rw [HDL.out]; omega, by rw [HDL.out, List.length_append, List.length_singleton]; omega, fun p hp => HRF.out p (List.mem_of_mem_drop hp), hpt _, HCW.out⟩
            | exact ⟨X ++ [⟨partE S (R.take 256), ra, q, rc, none, 0, 0⟩], R.drop q, some ⟨vb, 0, none⟩, _, vc, rc - q, by simp, by rw [HDL.out], by (rw [List.length_append, List.length_singleton]; exact HO.out), fun e => absurd e (by simp), fun _ => ⟨vb, rfl⟩, by (rw [List.length_append, List.length_singleton]; exact HKK.out), hes rc rfl, HRS2.out (by assumption), by rw [HDL.out]; omega, by rw [HDL.out, List.length_append, List.length_singleton]; omega, fun p hp => HRF.out p (List.mem_of_mem_drop hp), hpt _, HCW.out⟩
          case measure =>
            have hq0 := HQ.out
            show n - q + 0 < n + isNilS (.slice oa X.length oc)
            rcases HG2.out with h | ⟨_, h⟩
            · omega
            · rw [h, show isNilS (.slice none X.length oc) = 1 from rfl]
              omega
    · have hXn : X ≠ [] := fun e => hgo (.inl e)
      have hRn : R = [] := Classical.byContradiction fun e => hgo (.inr e)
      obtain ⟨b, rfl⟩ := hX1 hXn
      subst hRn
      have hdone := hP.done hXn rfl
      have HX := Lib.hid hX
      have HE := Lib.hid hE
      have HD := Lib.hid hdone
      have HC := Lib.hid hc
      have HK := Lib.hid hXk
      have hq : decide ((0 : Int) < (([] : List PlaceV).length : Int)) = false := by simp
      have hcmp := fun n c W => eql_some b n c W
      clear hX hX0 hX1 hXk hE hR hRl hXR hRF hP hc hgo hXn hdone
      go_wp2_with fail
      go_ret
      exact ⟨_, X, rfl, HX.out, HE.out.same HC.out, HD.out, fun k hk => Nat.le_trans hw3s (HK.out k hk), HC3.out.then HC.out⟩
end Go.Proofs.YtljabmkmngbhkaaGreatDoor
namespace Go.Proofs.YtljabmkmngbhkaaGreatDoor
open Go.RowKit
set_option linter.unusedVariables false
set_option linter.unusedSimpArgs false

theorem fileB_size (n : Int) : (fileB kindB n).size ≤ 64 := by
  by_cases h : okKind kindB.data.toList = true ∧ 0 ≤ n ∧ n ≤ 99999999
  · rw [fileB_yes h]
    have : (⟨(digK 8 n.toNat).toArray⟩ : ByteArray).size = 8 := by simp [ByteArray.size, digK_len]
    simp only [ByteArray.size_append]
    rw [this]
    decide
  · rw [fileB_no h]
    decide
theorem framedV_small (n : Int) (l : List EditV) (hl : l.length ≤ 1000000) : (framedV n l).1.size ≤ maxLen ∧ (framedV n l).2.1.size ≤ 140737488355328 := by
  have h1 := fileB_size n
  unfold framedV
  split
  · exact ⟨by decide, by decide⟩
  split
  · rename_i h
    have := framesB_size l h
    have : l.length * 65543 ≤ 1000000 * 65543 := Nat.mul_le_mul_right _ hl
    exact ⟨by show (fileB kindB n).size ≤ maxLen; unfold maxLen; omega, by show (framesB l).size ≤ _; omega⟩
  · exact ⟨by decide, by decide⟩
end Go.Proofs.YtljabmkmngbhkaaGreatDoor
namespace Go.Proofs.YtljabmkmngbhkaaGreatDoor
open Go.RowKit
set_option linter.unusedVariables false
set_option linter.unusedSimpArgs false

end Go.Proofs.YtljabmkmngbhkaaGreatDoor
namespace Go.Proofs.YtljabmkmngbhkaaGreatDoor
open Go.RowKit
set_option linter.unusedVariables false
set_option linter.unusedSimpArgs false

theorem kg_drew {w : World} {p : Addr} {v : Value} (h : w.cell? p = some v) : w.drew.cell? p = some v := h
theorem kg_chg {w w' : World} {p : Addr} {v : Value} (hc : Chg (fun _ => False) w w') (h : w.cell? p = some v) : w'.cell? p = some v := (hc.cell (World.block_lt_of_cell? w p h) (by simp)).trans h
theorem kg_alloc {w : World} {p : Addr} {v : Value} (o : Obj) (h : w.cell? p = some v) : (w.alloc o).cell? p = some v := kg_chg ((Chg.refl _ _).alloc o) h
def toldB (nm : ByteArray) : ByteArray := ⟨(fraB nm.data.toList).toArray⟩
def startM (D : DiskV) (n : Int) (S : VerV) : Int × DiskV :=
  if (framedV n (partsV S)).2.2 ≠ 0 then ((framedV n (partsV S)).2.2, D) else
  andV (createM D (framedV n (partsV S)).1 (framedV n (partsV S)).2.1) fun D1 => andV (syncDirD D1) fun D2 =>
  andV (if hasTx (namesL D) nextB then removeD D2 nextB else (0, D2)) fun D3 =>
  andV (createM D3 nextB (toldB (framedV n (partsV S)).1)) fun D4 => andV (renameD D4 nextB curB) syncDirD
def rmC (gd : Nat) : CallV := ((255, #[], #[.pointer (some ⟨gd, 0, none⟩)]), fun D => removeD D nextB)
def rnC (gd : Nat) : CallV := ((257, #[], #[.pointer (some ⟨gd, 0, none⟩)]), fun D => renameD D nextB curB)
theorem y_rename (w0 : World) (d : Nat) (D : DiskV) (Y : Nat → Prop) (n b : ByteArray) (hn : n.size ≤ maxLen) (hb : b.size ≤ maxLen) (hD : DSmall D) (w : World) (h : DY w0 w d D Y) :
    Calls Tryz.prog 258 #[.pointer (some ⟨d, 0, none⟩), .string n, .string b] w (YPost w0 w d Y (renameD D n b)) := by
  obtain ⟨ids, M, ha, hM, hY, hc⟩ := h
  exact (disk_rename d ids D M n b hn hb hD.q w ha).mono fun e w' ⟨he, hp⟩ => ⟨he, DY.post hM hY hc hp⟩
section
variable (d gd : Nat) (D : DiskV) (Y : Nat → Prop) (w0 w : World) (h : DY w0 w d D Y) (hb : Blk w gd 36 #[.pointer (some ⟨d, 0, none⟩)]) (hD : DSmall D)
include h hb hD
set_option maxRecDepth 100000 in
set_option maxHeartbeats 2000000 in
theorem ma_start_rm : Calls Tryz.prog 255 #[.pointer (some ⟨gd, 0, none⟩)] w (YPost w0 w d Y (removeD D nextB)) := by
  have hc := y_remove w0 d D Y nextB (by decide) hD w h
  have x0 := hb.cell 0
  simp at x0
  have HC := Lib.hid hc
  clear hc h hb hD
  go_enter Tryz.func255, Tryz.ntmps255
  go_wp2_with fail
  refine HC.out.mono ?_
  rintro e w1 ⟨rfl, hd⟩
  have HD := Lib.hid hd
  clear hd
  go_wp2_with fail
  go_ret
  exact ⟨rfl, HD.out⟩
set_option maxRecDepth 100000 in
set_option maxHeartbeats 2000000 in
theorem ma_start_rn : Calls Tryz.prog 257 #[.pointer (some ⟨gd, 0, none⟩)] w (YPost w0 w d Y (renameD D nextB curB)) := by
  have hc := y_rename w0 d D Y nextB curB (by decide) (by decide) hD w h
  have x0 := hb.cell 0
  simp at x0
  have HC := Lib.hid hc
  clear hc h hb hD
  go_enter Tryz.func257, Tryz.ntmps257
  go_wp2_with fail
  refine HC.out.mono ?_
  rintro e w1 ⟨rfl, hd⟩
  have HD := Lib.hid hd
  clear hd
  go_wp2_with fail
  go_ret
  exact ⟨rfl, HD.out⟩
end
end Go.Proofs.YtljabmkmngbhkaaGreatDoor
