/-
  The law FeedBack returns true.
-/
import Derived.Test.YtihkackkbdnagaaDoorFeeS
namespace Go.Proofs.YtihkackkbdnagaaDoor
open Go.RowKit Go.Shelf
set_option linter.unusedVariables false
set_option linter.unusedSimpArgs false

theorem numV_fit {f : List UInt8} {v : Int} (h : numV f = some v) : -9223372036854775808 ≤ v ∧ v ≤ 9223372036854775807 := by
  obtain ⟨h1, h2, _⟩ := numV_some.1 h
  unfold maxN at h1 h2
  omega
theorem itemL_fit {l : List UInt8} {x : ItemV} (h : itemL l = some x) : Fit x := by
  unfold itemL at h
  split at h
  · split at h
    · cases hv : numV _ with
      | none => rw [hv] at h; cases h
      | some v =>
        rw [hv] at h
        simp at h
        subst h
        exact ⟨(numV_fit hv).1, (numV_fit hv).2, show (-9223372036854775808 : Int) ≤ 0 by decide, show (0 : Int) ≤ 9223372036854775807 by decide⟩
    · cases h
  · split at h
    · split at h
      · split at h
        · rename_i h1 h2
          injection h with h
          subst h
          exact ⟨(numV_fit h1).1, (numV_fit h1).2, (numV_fit h2).1, (numV_fit h2).2⟩
        · cases h
      · cases h
    · cases h
  · cases h
theorem parseF_fit : ∀ (n : Nat) (s : List UInt8) (out l : List ItemV), parseF n s out = .inl l → (∀ x ∈ out, Fit x) → ∀ x ∈ l, Fit x
  | 0, s, out, l, h, _ => by
    simp [parseF] at h
  | n + 1, s, out, l, h, ho => by
    by_cases hs : s = []
    · subst hs
      rw [parseF, if_pos rfl] at h
      injection h with h
      subst h
      exact ho
    · rw [parseF_step _ _ _ hs] at h
      split at h
      · rename_i x hx _
        refine parseF_fit n _ _ l h fun y hy => ?_
        rcases List.mem_append.1 hy with hy | hy
        · exact ho y hy
        · simp at hy
          subst hy
          exact itemL_fit hx
      · cases h
theorem parse_fit {s : List UInt8} {l : List ItemV} (h : parseV s = .inl l) : (∀ x ∈ l, Fit x) ∧ showV l = s ∧ l.length ≤ s.length := by
  refine ⟨parseF_fit _ _ _ _ h (by simp), ?_⟩
  obtain ⟨m, e, hs⟩ := show_parse _ _ _ _ h
  simp at e
  subst e
  refine ⟨hs, ?_⟩
  rw [← hs]
  clear h hs
  induction l with
  | nil => simp
  | cons x r ih => simp [showV] at ih ⊢; omega
/-- An item that the law leaves out. -/
def skipV (x : ItemV) : Prop := x.time < -9007199254740992 ∨ x.time > 9007199254740992 ∨ x.val < -9007199254740992 ∨ x.val > 9007199254740992 ∨ x.kind = 32 ∨ x.kind = 10
instance (x : ItemV) : Decidable (skipV x) := by unfold skipV; infer_instance
def normV (x : ItemV) : ItemV := if x.mark then ⟨true, x.time, 0, 0⟩ else x
def keepV (l : List ItemV) : List ItemV := l.flatMap fun x => if skipV x then [] else [normV x]
theorem keep_add (A : List ItemV) (x : ItemV) : keepV (A ++ [x]) = keepV A ++ if skipV x then [] else [normV x] := by simp [keepV]
theorem keep_len (A : List ItemV) : (keepV A).length ≤ A.length := by
  induction A with
  | nil => simp [keepV]
  | cons x r ih =>
    have e : keepV (x :: r) = (if skipV x then [] else [normV x]) ++ keepV r := by simp [keepV]
    rw [e]
    split <;> simp <;> omega
theorem keep_told (l : List ItemV) : ∀ x ∈ keepV l, Told x := by
  intro x hx
  simp only [keepV, List.mem_flatMap] at hx
  obtain ⟨y, _, hy⟩ := hx
  split at hy
  · simp at hy
  · rename_i hs
    simp at hy
    subst hy
    unfold skipV at hs
    unfold normV Told maxN
    have hk : y.kind ≠ 32 ∧ y.kind ≠ 10 := ⟨fun e => hs (by simp [e]), fun e => hs (by simp [e])⟩
    split
    · refine ⟨by simp only; omega, by simp only; omega, by simp, by simp, show (0 : UInt8) ≠ 32 by decide, show (0 : UInt8) ≠ 10 by decide, by simp⟩
    · rename_i hm
      exact ⟨by omega, by omega, by omega, by omega, hk.1, hk.2, fun h => absurd h hm⟩
theorem told_fit {x : ItemV} (h : Told x) : Fit x := by
  obtain ⟨h1, h2, h3, h4, _⟩ := h
  unfold maxN at h1 h2 h3 h4
  exact ⟨by omega, by omega, by omega, by omega⟩
theorem keep_parse (l : List ItemV) : parseV (showV (keepV l)) = .inl (keepV l) := by
  have hl : (keepV l).length ≤ (showV (keepV l)).length := by
    generalize keepV l = m
    induction m with
    | nil => simp
    | cons x r ih => simp [showV] at ih ⊢; omega
  have := parse_show ((showV (keepV l)).length + 1) (keepV l) [] (keep_told l) (by omega)
  simpa [parseV] using this
theorem kind_test (a b : UInt8) : ((a.toNat : Int) == (b.toNat : Int)) = decide (a = b) := by
  by_cases h : a = b
  · subst h; simp
  · rw [decide_eq_false h, beq_eq_false_iff_ne]
    intro e
    exact h (UInt8.toNat_inj.1 (by omega))
set_option maxRecDepth 100000 in
set_option maxHeartbeats 8000000 in
theorem feed_back (s : ByteArray) (v : Value) (l : List ItemV) (w : World) (hs : s.size ≤ 1000000000) (hR : ReadItems w v l) (hlen : l.length ≤ 10000000) (ht : Tab w) (he : ErrOk w) (hm : MaxOk w) :
    Calls Tryd.prog 4 #[.string s, v] w fun e w' => e = .returned (.bool true) ∧ Chg (fun _ => False) w w' := by
  have hpa := fun (r : ByteArray) (hr : r.size ≤ 1000000000) W (hW : Chg (fun _ => False) w W) => fd_parse r hr W (ht.chg hW) (he.chg hW) (hm.chg hW)
  have hwk := fun W (hW : Chg (fun _ => False) w W) => lf_wakes W (ht.chg hW) (he.chg hW) (hm.chg hW)
  have HPA := Lib.hid hpa
  have HWK := Lib.hid hwk
  have HT := Lib.hid ht
  obtain ⟨a, cap, rfl, h1, h2, hread⟩ := hR
  have HREAD := Lib.hid hread
  clear hpa hwk ht he hm hread
  go_enter Tryd.func4, Tryd.ntmps4
  go_wp2_with fail
  refine (HPA.out s hs w (Chg.refl _ _)).mono ?_
  rintro e w2 ⟨⟨pa, P, hP, rfl, hLa⟩ | ⟨k, hk, rfl⟩, hc2⟩
  · obtain ⟨hPf, hPs, hPl⟩ := parse_fit hP
    have e4 : s.data.toList.length = s.size := by rw [Array.length_toList]; rfl
    have hsh := fun W (hW : Chg (fun _ => False) w2 W) => fd_show pa P W (hLa.same hW) hPf (by omega) (HT.out.chg (hc2.then hW))
    have htx : (⟨(showV P).toArray⟩ : ByteArray) = s := ba_eq (by rw [← hPs])
    rw [htx] at hsh
    have htest := ba_test s s
    rw [decide_eq_true rfl] at htest
    obtain ⟨ua, uc, rfl, _⟩ := item_form hLa
    have HSH := Lib.hid hsh
    have HC2 := Lib.hid hc2
    clear hsh htx hPf hPs hPl hP hc2 hLa e4
    go_wp2_with fail
    refine (HWK.out w2 HC2.out).mono ?_
    rintro e w3 ⟨rfl, hc3⟩
    have HC3 := Lib.hid (HC2.out.then hc3)
    have HC23 := Lib.hid hc3
    clear hc3
    go_wp2_with fail
    refine (HSH.out w3 HC23.out).mono ?_
    rintro e w4 ⟨rfl, hc4⟩
    have HC4 := Lib.hid (HC3.out.then hc4)
    clear hc4 HSH HC23 HC3 HC2 htest
    -- ahead of the loop: the world, the law's facts
    go_wp2_with fail
    go_loopw [8, 35] (fun u i wr => ∃ A R K, l = A ++ R ∧ i = .int .i64 (A.length : Int) ∧ K = keepV A ∧ Lst itemC wr u K ∧ (∀ j, u.ownBlock = some j → w.heap.size ≤ j) ∧ Chg (fun _ => False) w wr) (fun _ i _ => l.length - (intOf i).toNat)
    case atStart => exact ⟨[], l, [], rfl, rfl, rfl, Lst.nil _ _, by simp [Value.ownBlock], HC4.out⟩
    case round =>
      obtain ⟨A, R, K, hl, rfl, rfl, hL, hown, hcr⟩ := hrel
      obtain ⟨xa, xc, rfl, _⟩ := item_form hL
      have hAl : A.length ≤ l.length := by rw [hl]; simp
      have hkl := keep_len A
      have HLq := Lib.hid hL
      have HOWN := Lib.hid hown
      have HCq := Lib.hid hcr
      obtain ⟨wq, rfl⟩ : ∃ wq : World, wq = wr := ⟨_, rfl⟩
      clear hL hown hcr
      cases R with
      | nil =>
        have hge : ¬ ((A.length : Int) < (l.length : Int)) := by rw [hl]; simp
        have hE : l = A := by rw [hl]; simp
        have hsh := fd_show (.slice xa (keepV A).length xc) (keepV A) wq HLq.out (fun y hy => told_fit (keep_told A y hy)) (by omega) (HT.out.chg HCq.out)
        obtain ⟨tx, htx⟩ : ∃ tx : ByteArray, (⟨(showV (keepV A)).toArray⟩ : ByteArray) = tx := ⟨_, rfl⟩
        have htl : tx.data.toList = showV (keepV A) := by rw [← htx]
        have hts : tx.size ≤ 1000000000 := by
          have e : tx.data.toList.length = tx.size := by rw [Array.length_toList]; rfl
          have := showV_len (l := keepV A) fun y hy => told_fit (keep_told A y hy)
          rw [← e, htl]; omega
        have hpp : parseV tx.data.toList = .inl (keepV A) := by rw [htl]; exact keep_parse A
        rw [htx] at hsh
        have HSH := Lib.hid hsh
        have HPP := Lib.hid hpp
        clear hl hE htx htl hsh hpp
        go_wp2_with fail
        refine HSH.out.mono ?_
        rintro e w5 ⟨rfl, hc5⟩
        have HC5 := Lib.hid (HCq.out.then hc5)
        have HL5 := Lib.hid (HLq.out.same hc5)
        clear hc5
        go_wp2_with fail
        refine (HPA.out tx hts w5 HC5.out).mono ?_
        rintro e w6 ⟨⟨pb, P, hP, rfl, hLb⟩ | ⟨k, hk, rfl⟩, hc6⟩
        · rw [HPP.out] at hP
          injection hP with hP
          subst hP
          have HC6 := Lib.hid (HC5.out.then hc6)
          obtain ⟨_, _, e1, _, _, hra⟩ := item_read (HL5.out.same hc6)
          cases e1
          obtain ⟨aa, ca, rfl, _, _, hrb⟩ := item_read hLb
          have HRA := Lib.hid hra
          have HRB := Lib.hid hrb
          obtain ⟨P, hPe⟩ : ∃ P, P = keepV A := ⟨_, rfl⟩
          rw [← hPe] at HRA HRB ⊢
          have hPl : P.length ≤ 9223372036854775807 := by rw [hPe]; omega
          clear hc6 hra hrb hLb hPe hkl hAl HL5 HLq HPP HSH HPA
          go_wp2_with fail
          go_loopw [94] (fun i wr => ∃ A R, P = A ++ R ∧ i = .int .i64 (A.length : Int) ∧ ∃ n, w6.drewN n = wr) (fun i _ => P.length - (intOf i).toNat)
          case atStart => exact ⟨[], P, rfl, rfl, 0, rfl⟩
          case round =>
            obtain ⟨A, R, hl, rfl, n, rfl⟩ := hrel
            have hAl : A.length ≤ P.length := by rw [hl]; simp
            cases R with
            | nil =>
              have hge : ¬ ((A.length : Int) < (P.length : Int)) := by rw [hl]; simp
              clear hl
              go_wp2_with fail
              go_ret
              exact ⟨rfl, HC6.out.drewN n⟩
            | cons x R =>
              have hlt : (A.length : Int) < (P.length : Int) := by rw [hl]; simp; omega
              obtain ⟨b, rfl, _, _, y0, y1, y2, y3⟩ := HRA.out A x R hl
              obtain ⟨b2, rfl, _, _, z0, z1, z2, z3⟩ := HRB.out A x R hl
              have hl2 : P = (A ++ [x]) ++ R := by rw [hl]; simp
              have HL2 := Lib.hid hl2
              have hge : (0 : Int) ≤ (A.length : Int) := by omega
              clear hl hl2
              have y0 : (w6.drewN n).cell? ⟨b, A.length * 4, none⟩ = some (.bool x.mark) := y0
              have y1 : (w6.drewN n).cell? ⟨b, A.length * 4 + 1, none⟩ = some (.int .i64 x.time) := y1
              have y2 : (w6.drewN n).cell? ⟨b, A.length * 4 + 2, none⟩ = some (.int .u8 (x.kind.toNat : Int)) := y2
              have y3 : (w6.drewN n).cell? ⟨b, A.length * 4 + 3, none⟩ = some (.int .i64 x.val) := y3
              have z0 : (w6.drewN n).cell? ⟨b2, A.length * 4, none⟩ = some (.bool x.mark) := z0
              have z1 : (w6.drewN n).cell? ⟨b2, A.length * 4 + 1, none⟩ = some (.int .i64 x.time) := z1
              have z2 : (w6.drewN n).cell? ⟨b2, A.length * 4 + 2, none⟩ = some (.int .u8 (x.kind.toNat : Int)) := z2
              have z3 : (w6.drewN n).cell? ⟨b2, A.length * 4 + 3, none⟩ = some (.int .i64 x.val) := z3
              go_wp2_with fail
              go_quiet (fail)
              go_wp2_with fail
              exact ⟨⟨A ++ [x], R, HL2.out, by simp, n + nq, rfl⟩, by simp [intOf]; omega⟩
        · rw [HPP.out] at hk
          cases hk
      | cons x R =>
        have hlt : (A.length : Int) < (l.length : Int) := by rw [hl]; simp; omega
        obtain ⟨b, off, rfl, hb, z0, z1, z2, z3⟩ := HREAD.out A x R hl
        have y0 := kg_chg HCq.out z0
        have y1 := kg_chg HCq.out z1
        have y2 := kg_chg HCq.out z2
        have y3 := kg_chg HCq.out z3
        have hl2 : l = (A ++ [x]) ++ R := by rw [hl]; simp
        have HL2 := Lib.hid hl2
        have hge : (0 : Int) ≤ (A.length : Int) := by omega
        clear hl hl2 z0 z1 z2 z3 hb
        by_cases hsk : skipV x
        · have HSK := Lib.hid hsk
          have k32 : ((x.kind.toNat : Int) == 32) = decide (x.kind = 32) := kind_test x.kind 32
          have k10 : ((x.kind.toNat : Int) == 10) = decide (x.kind = 10) := kind_test x.kind 10
          by_cases c1 : x.time < -9007199254740992
          · have d1 : decide (x.time < -9007199254740992) = true := decide_eq_true c1
            clear c1 hsk k32 k10
            go_wp2_with fail
            go_roundw
            case rel => exact ⟨A ++ [x], R, keepV A, HL2.out, by simp, by rw [keep_add, if_pos HSK.out, List.append_nil], HLq.out.same (by ((repeat (first | exact Chg.refl _ _ | assumption | refine Chg.drewN ?_ _ | refine Chg.drew ?_ | refine Chg.alloc ?_ _ | refine Chg.setCell ?_ (by first | (simp; done) | (simp; omega) | (intro h; simp at h; omega)) _)))), HOWN.out, HCq.out.alloc _⟩
            case measure => simp [intOf]; omega
          · have d1 : decide (x.time < -9007199254740992) = false := decide_eq_false c1
            by_cases c2 : x.time > 9007199254740992
            · have d2 : decide (x.time > 9007199254740992) = true := decide_eq_true c2
              clear c1 c2 hsk k32 k10
              go_wp2_with fail
              go_roundw
              case rel => exact ⟨A ++ [x], R, keepV A, HL2.out, by simp, by rw [keep_add, if_pos HSK.out, List.append_nil], HLq.out.same (by ((repeat (first | exact Chg.refl _ _ | assumption | refine Chg.drewN ?_ _ | refine Chg.drew ?_ | refine Chg.alloc ?_ _ | refine Chg.setCell ?_ (by first | (simp; done) | (simp; omega) | (intro h; simp at h; omega)) _)))), HOWN.out, HCq.out.alloc _⟩
              case measure => simp [intOf]; omega
            · have d2 : decide (x.time > 9007199254740992) = false := decide_eq_false c2
              by_cases c3 : x.val < -9007199254740992
              · have d3 : decide (x.val < -9007199254740992) = true := decide_eq_true c3
                clear c1 c2 c3 hsk k32 k10
                go_wp2_with fail
                go_roundw
                case rel => exact ⟨A ++ [x], R, keepV A, HL2.out, by simp, by rw [keep_add, if_pos HSK.out, List.append_nil], HLq.out.same (by ((repeat (first | exact Chg.refl _ _ | assumption | refine Chg.drewN ?_ _ | refine Chg.drew ?_ | refine Chg.alloc ?_ _ | refine Chg.setCell ?_ (by first | (simp; done) | (simp; omega) | (intro h; simp at h; omega)) _)))), HOWN.out, HCq.out.alloc _⟩
                case measure => simp [intOf]; omega
              · have d3 : decide (x.val < -9007199254740992) = false := decide_eq_false c3
                by_cases c4 : x.val > 9007199254740992
                · have d4 : decide (x.val > 9007199254740992) = true := decide_eq_true c4
                  clear c1 c2 c3 c4 hsk k32 k10
                  go_wp2_with fail
                  go_roundw
                  case rel => exact ⟨A ++ [x], R, keepV A, HL2.out, by simp, by rw [keep_add, if_pos HSK.out, List.append_nil], HLq.out.same (by ((repeat (first | exact Chg.refl _ _ | assumption | refine Chg.drewN ?_ _ | refine Chg.drew ?_ | refine Chg.alloc ?_ _ | refine Chg.setCell ?_ (by first | (simp; done) | (simp; omega) | (intro h; simp at h; omega)) _)))), HOWN.out, HCq.out.alloc _⟩
                  case measure => simp [intOf]; omega
                · have d4 : decide (x.val > 9007199254740992) = false := decide_eq_false c4
                  by_cases c5 : x.kind = 32
                  · rw [decide_eq_true c5] at k32
                    clear c1 c2 c3 c4 c5 hsk k10
                    go_wp2_with fail
                    go_roundw
                    case rel => exact ⟨A ++ [x], R, keepV A, HL2.out, by simp, by rw [keep_add, if_pos HSK.out, List.append_nil], HLq.out.same (by ((repeat (first | exact Chg.refl _ _ | assumption | refine Chg.drewN ?_ _ | refine Chg.drew ?_ | refine Chg.alloc ?_ _ | refine Chg.setCell ?_ (by first | (simp; done) | (simp; omega) | (intro h; simp at h; omega)) _)))), HOWN.out, HCq.out.alloc _⟩
                    case measure => simp [intOf]; omega
                  · rw [decide_eq_false c5] at k32
                    have c6 : x.kind = 10 := by
                      unfold skipV at hsk
                      rcases hsk with h | h | h | h | h | h
                      · exact absurd h c1
                      · exact absurd h c2
                      · exact absurd h c3
                      · exact absurd h c4
                      · exact absurd h c5
                      · exact h
                    rw [decide_eq_true c6] at k10
                    clear c1 c2 c3 c4 c5 c6 hsk
                    go_wp2_with fail
                    go_roundw
                    case rel => exact ⟨A ++ [x], R, keepV A, HL2.out, by simp, by rw [keep_add, if_pos HSK.out, List.append_nil], HLq.out.same (by ((repeat (first | exact Chg.refl _ _ | assumption | refine Chg.drewN ?_ _ | refine Chg.drew ?_ | refine Chg.alloc ?_ _ | refine Chg.setCell ?_ (by first | (simp; done) | (simp; omega) | (intro h; simp at h; omega)) _)))), HOWN.out, HCq.out.alloc _⟩
                    case measure => simp [intOf]; omega
        · have HSK := Lib.hid hsk
          unfold skipV at hsk
          have k32 : ((x.kind.toNat : Int) == 32) = false := (kind_test x.kind 32).trans (decide_eq_false fun e => hsk (by simp [e]))
          have k10 : ((x.kind.toNat : Int) == 10) = false := (kind_test x.kind 10).trans (decide_eq_false fun e => hsk (by simp [e]))
          have d1 : decide (x.time < -9007199254740992) = false := decide_eq_false (by omega)
          have d2 : decide (x.time > 9007199254740992) = false := decide_eq_false (by omega)
          have d3 : decide (x.val < -9007199254740992) = false := decide_eq_false (by omega)
          have d4 : decide (x.val > 9007199254740992) = false := decide_eq_false (by omega)
          clear hsk
          obtain ⟨w2, hw2⟩ : ∃ w2, w2 = wq.alloc (.cells #[.bool x.mark, .int .i64 x.time, .int .u8 (x.kind.toNat : Int), .int .i64 x.val] 39) := ⟨_, rfl⟩
          obtain ⟨g, hg⟩ : ∃ g, wq.heap.size = g := ⟨_, rfl⟩
          have hb2 : Blk w2 g 39 #[.bool x.mark, .int .i64 x.time, .int .u8 (x.kind.toNat : Int), .int .i64 x.val] := by rw [hw2, ← hg]; exact Blk.new _ _ _
          have hgw : w.heap.size ≤ g := by rw [← hg]; exact HCq.out.size
          have hc2 : Chg (fun _ => False) w w2 := by rw [hw2]; exact HCq.out.alloc _
          have hL2 : Lst itemC w2 (.slice xa (keepV A).length xc) (keepV A) := HLq.out.same (by rw [hw2]; ((repeat (first | exact Chg.refl _ _ | assumption | refine Chg.drewN ?_ _ | refine Chg.drew ?_ | refine Chg.alloc ?_ _ | refine Chg.setCell ?_ (by first | (simp; done) | (simp; omega) | (intro h; simp at h; omega)) _))))
          have HW2 := Lib.hid hw2
          have HB2 := Lib.hid hb2
          have HC2 := Lib.hid hc2
          have HLL2 := Lib.hid hL2
          have HG := Lib.hid hg
          go_upto_region 8 with fail
          rw [← HW2.out]
          clear y0 y1 y2 y3 hw2 hb2 hc2 hL2
          have y0 := HB2.out.cell 0
          have y1 := HB2.out.cell 1
          have y2 := HB2.out.cell 2
          have y3 := HB2.out.cell 3
          have f2 := HB2.out.frozen 2
          have f3 := HB2.out.frozen 3
          have hgl := HB2.out.lt
          simp at y0 y1 y2 y3
          cases hm : x.mark with
          | false =>
            have hno : normV x = x := by unfold normV; rw [hm]; rfl
            obtain ⟨w3, hw3⟩ : ∃ w3, w3 = w2.alloc (.cells #[.bool false, .int .i64 x.time, .int .u8 (x.kind.toNat : Int), .int .i64 x.val] 37) := ⟨_, rfl⟩
            obtain ⟨g3, hg3⟩ : ∃ g3, w2.heap.size = g3 := ⟨_, rfl⟩
            have hbk : Blk w3 g3 37 (itemC.g (normV x)).toArray := by rw [hno, hw3, ← hg3]; show Blk _ _ _ #[.bool x.mark, .int .i64 x.time, .int .u8 (x.kind.toNat : Int), .int .i64 x.val]; rw [hm]; exact Blk.new _ _ _
            have HC3 := Lib.hid (show Chg (fun _ => False) w w3 by rw [hw3]; exact HC2.out.alloc _)
            have HL3 := Lib.hid (show Lst itemC w3 (.slice xa (keepV A).length xc) (keepV A) from HLL2.out.same (by rw [hw3]; ((repeat (first | exact Chg.refl _ _ | assumption | refine Chg.drewN ?_ _ | refine Chg.drew ?_ | refine Chg.alloc ?_ _ | refine Chg.setCell ?_ (by first | (simp; done) | (simp; omega) | (intro h; simp at h; omega)) _)))))
            have HBK := Lib.hid hbk
            have HW3 := Lib.hid hw3
            rw [hm] at y0
            clear hbk hw3 hno
            go_wp2_with (at_builtin; rw [← HW3.out]; refine wpList_lst_app itemOk _ (by rfl) _ _ (by rfl) (keepV A) (.slice xa (keepV A).length xc) (normV x) (by rfl) HL3.out g3 (by rfl) (by omega) HBK.out ?_)
            intro v' w4 hO hc4 hk4
            obtain ⟨ya, yc, ex, _⟩ := item_form hO
            subst ex
            have hcw : Chg (fun _ => False) w w4 := HC3.out.trans hc4 fun j hj e => by
              have := HOWN.out j e
              omega
            have hown2 : ∀ j, (Value.slice ya (keepV A ++ [normV x]).length yc).ownBlock = some j → w.heap.size ≤ j := fun j e => by
              rcases hk4 j e with h | h
              · exact HOWN.out j h
              · have := HC3.out.size; omega
            have HO := Lib.hid hO
            have HCW := Lib.hid hcw
            have HOW2 := Lib.hid hown2
            clear hO hc4 hk4 hcw hown2
            go_wp2_with fail
            go_roundw
            case rel => exact ⟨A ++ [x], R, keepV A ++ [normV x], HL2.out, by simp, by rw [keep_add, if_neg HSK.out], HO.out, HOW2.out, HCW.out⟩
            case measure => simp [intOf]; omega
          | true =>
            have hno : normV x = ⟨true, x.time, 0, 0⟩ := by unfold normV; rw [hm]; rfl
            obtain ⟨w2b, hw2b⟩ : ∃ w2b, w2b = (w2.setCell ⟨g, 2, none⟩ (.int .u8 0)).setCell ⟨g, 3, none⟩ (.int .i64 0) := ⟨_, rfl⟩
            have hb2b : Blk w2b g 39 #[.bool true, .int .i64 x.time, .int .u8 0, .int .i64 0] := by
              rw [hw2b]
              have := ((HB2.out.set_ 2 (.int .u8 0)).set_ 3 (.int .i64 0))
              rw [hm] at this
              simpa using this
            have hc2b : Chg (fun _ => False) w w2b := by rw [hw2b]; have := HC2.out; ((repeat (first | with_reducible exact Chg.refl _ _ | with_reducible assumption | with_reducible refine Chg.drewN ?_ _ | with_reducible refine Chg.drew ?_ | with_reducible refine Chg.alloc ?_ _ | with_reducible refine Chg.setCell ?_ (by first | (simp; done) | (simp; omega) | (intro h; simp at h; omega)) _)))
            have hl2b : Lst itemC w2b (.slice xa (keepV A).length xc) (keepV A) := HLL2.out.chg (S := fun k => k = g) (by rw [hw2b]; ((repeat (first | with_reducible exact Chg.refl _ _ | with_reducible assumption | with_reducible refine Chg.drewN ?_ _ | with_reducible refine Chg.drew ?_ | with_reducible refine Chg.alloc ?_ _ | with_reducible refine Chg.setCell ?_ (by first | (simp; done) | (simp; omega) | (intro h; simp at h; omega)) _)))) fun k hk e => by
              obtain ⟨cs, hb⟩ := HLL2.out.typed hk
              subst e
              exact hb.ne_ HB2.out (by decide) rfl
            obtain ⟨w3, hw3⟩ : ∃ w3, w3 = w2b.alloc (.cells #[.bool true, .int .i64 x.time, .int .u8 0, .int .i64 0] 37) := ⟨_, rfl⟩
            obtain ⟨g3, hg3⟩ : ∃ g3, w2b.heap.size = g3 := ⟨_, rfl⟩
            have hbk : Blk w3 g3 37 (itemC.g (normV x)).toArray := by rw [hno, hw3, ← hg3]; exact Blk.new _ _ _
            have HC3 := Lib.hid (show Chg (fun _ => False) w w3 by rw [hw3]; exact hc2b.alloc _)
            have HL3 := Lib.hid (show Lst itemC w3 (.slice xa (keepV A).length xc) (keepV A) from hl2b.same (by rw [hw3]; ((repeat (first | exact Chg.refl _ _ | assumption | refine Chg.drewN ?_ _ | refine Chg.drew ?_ | refine Chg.alloc ?_ _ | refine Chg.setCell ?_ (by first | (simp; done) | (simp; omega) | (intro h; simp at h; omega)) _)))))
            have HBK := Lib.hid hbk
            have HW3 := Lib.hid hw3
            have HW2B := Lib.hid hw2b
            have HB2B := Lib.hid hb2b
            rw [hm] at y0
            clear hbk hw3 hno hw2b hb2b hc2b hl2b
            go_upto_region 11 with fail
            rw [← HW2B.out]
            clear y0 y1 y2 y3
            have y0 := HB2B.out.cell 0
            have y1 := HB2B.out.cell 1
            have y2 := HB2B.out.cell 2
            have y3 := HB2B.out.cell 3
            simp at y0 y1 y2 y3
            go_wp2_with (at_builtin; rw [← HW3.out]; refine wpList_lst_app itemOk _ (by rfl) _ _ (by rfl) (keepV A) (.slice xa (keepV A).length xc) (normV x) (by rfl) HL3.out g3 (by rfl) (by omega) HBK.out ?_)
            intro v' w4 hO hc4 hk4
            obtain ⟨ya, yc, ex, _⟩ := item_form hO
            subst ex
            have hcw : Chg (fun _ => False) w w4 := HC3.out.trans hc4 fun j hj e => by
              have := HOWN.out j e
              omega
            have hown2 : ∀ j, (Value.slice ya (keepV A ++ [normV x]).length yc).ownBlock = some j → w.heap.size ≤ j := fun j e => by
              rcases hk4 j e with h | h
              · exact HOWN.out j h
              · have := HC3.out.size; omega
            have HO := Lib.hid hO
            have HCW := Lib.hid hcw
            have HOW2 := Lib.hid hown2
            clear hO hc4 hk4 hcw hown2
            go_wp2_with fail
            go_roundw
            case rel => exact ⟨A ++ [x], R, keepV A ++ [normV x], HL2.out, by simp, by rw [keep_add, if_neg HSK.out], HO.out, HOW2.out, HCW.out⟩
            case measure => simp [intOf]; omega
  · clear hk
    go_wp2_with fail
    refine (HWK.out w2 hc2).mono ?_
    rintro e w4 ⟨rfl, hc4⟩
    have HC4 := Lib.hid (hc2.then hc4)
    clear hc4 hc2
    -- ahead of the loop: the world, the law's facts
    go_wp2_with fail
    go_loopw [8, 35] (fun u i wr => ∃ A R K, l = A ++ R ∧ i = .int .i64 (A.length : Int) ∧ K = keepV A ∧ Lst itemC wr u K ∧ (∀ j, u.ownBlock = some j → w.heap.size ≤ j) ∧ Chg (fun _ => False) w wr) (fun _ i _ => l.length - (intOf i).toNat)
    case atStart => exact ⟨[], l, [], rfl, rfl, rfl, Lst.nil _ _, by simp [Value.ownBlock], HC4.out⟩
    case round =>
      obtain ⟨A, R, K, hl, rfl, rfl, hL, hown, hcr⟩ := hrel
      obtain ⟨xa, xc, rfl, _⟩ := item_form hL
      have hAl : A.length ≤ l.length := by rw [hl]; simp
      have hkl := keep_len A
      have HLq := Lib.hid hL
      have HOWN := Lib.hid hown
      have HCq := Lib.hid hcr
      obtain ⟨wq, rfl⟩ : ∃ wq : World, wq = wr := ⟨_, rfl⟩
      clear hL hown hcr
      cases R with
      | nil =>
        have hge : ¬ ((A.length : Int) < (l.length : Int)) := by rw [hl]; simp
        have hE : l = A := by rw [hl]; simp
        have hsh := fd_show (.slice xa (keepV A).length xc) (keepV A) wq HLq.out (fun y hy => told_fit (keep_told A y hy)) (by omega) (HT.out.chg HCq.out)
        obtain ⟨tx, htx⟩ : ∃ tx : ByteArray, (⟨(showV (keepV A)).toArray⟩ : ByteArray) = tx := ⟨_, rfl⟩
        have htl : tx.data.toList = showV (keepV A) := by rw [← htx]
        have hts : tx.size ≤ 1000000000 := by
          have e : tx.data.toList.length = tx.size := by rw [Array.length_toList]; rfl
          have := showV_len (l := keepV A) fun y hy => told_fit (keep_told A y hy)
          rw [← e, htl]; omega
        have hpp : parseV tx.data.toList = .inl (keepV A) := by rw [htl]; exact keep_parse A
        rw [htx] at hsh
        have HSH := Lib.hid hsh
        have HPP := Lib.hid hpp
        clear hl hE htx htl hsh hpp
        go_wp2_with fail
        refine HSH.out.mono ?_
        rintro e w5 ⟨rfl, hc5⟩
        have HC5 := Lib.hid (HCq.out.then hc5)
        have HL5 := Lib.hid (HLq.out.same hc5)
        clear hc5
        go_wp2_with fail
        refine (HPA.out tx hts w5 HC5.out).mono ?_
        rintro e w6 ⟨⟨pb, P, hP, rfl, hLb⟩ | ⟨k, hk, rfl⟩, hc6⟩
        · rw [HPP.out] at hP
          injection hP with hP
          subst hP
          have HC6 := Lib.hid (HC5.out.then hc6)
          obtain ⟨_, _, e1, _, _, hra⟩ := item_read (HL5.out.same hc6)
          cases e1
          obtain ⟨aa, ca, rfl, _, _, hrb⟩ := item_read hLb
          have HRA := Lib.hid hra
          have HRB := Lib.hid hrb
          obtain ⟨P, hPe⟩ : ∃ P, P = keepV A := ⟨_, rfl⟩
          rw [← hPe] at HRA HRB ⊢
          have hPl : P.length ≤ 9223372036854775807 := by rw [hPe]; omega
          clear hc6 hra hrb hLb hPe hkl hAl HL5 HLq HPP HSH HPA
          go_wp2_with fail
          go_loopw [94] (fun i wr => ∃ A R, P = A ++ R ∧ i = .int .i64 (A.length : Int) ∧ ∃ n, w6.drewN n = wr) (fun i _ => P.length - (intOf i).toNat)
          case atStart => exact ⟨[], P, rfl, rfl, 0, rfl⟩
          case round =>
            obtain ⟨A, R, hl, rfl, n, rfl⟩ := hrel
            have hAl : A.length ≤ P.length := by rw [hl]; simp
            cases R with
            | nil =>
              have hge : ¬ ((A.length : Int) < (P.length : Int)) := by rw [hl]; simp
              clear hl
              go_wp2_with fail
              go_ret
              exact ⟨rfl, HC6.out.drewN n⟩
            | cons x R =>
              have hlt : (A.length : Int) < (P.length : Int) := by rw [hl]; simp; omega
              obtain ⟨b, rfl, _, _, y0, y1, y2, y3⟩ := HRA.out A x R hl
              obtain ⟨b2, rfl, _, _, z0, z1, z2, z3⟩ := HRB.out A x R hl
              have hl2 : P = (A ++ [x]) ++ R := by rw [hl]; simp
              have HL2 := Lib.hid hl2
              have hge : (0 : Int) ≤ (A.length : Int) := by omega
              clear hl hl2
              have y0 : (w6.drewN n).cell? ⟨b, A.length * 4, none⟩ = some (.bool x.mark) := y0
              have y1 : (w6.drewN n).cell? ⟨b, A.length * 4 + 1, none⟩ = some (.int .i64 x.time) := y1
              have y2 : (w6.drewN n).cell? ⟨b, A.length * 4 + 2, none⟩ = some (.int .u8 (x.kind.toNat : Int)) := y2
              have y3 : (w6.drewN n).cell? ⟨b, A.length * 4 + 3, none⟩ = some (.int .i64 x.val) := y3
              have z0 : (w6.drewN n).cell? ⟨b2, A.length * 4, none⟩ = some (.bool x.mark) := z0
              have z1 : (w6.drewN n).cell? ⟨b2, A.length * 4 + 1, none⟩ = some (.int .i64 x.time) := z1
              have z2 : (w6.drewN n).cell? ⟨b2, A.length * 4 + 2, none⟩ = some (.int .u8 (x.kind.toNat : Int)) := z2
              have z3 : (w6.drewN n).cell? ⟨b2, A.length * 4 + 3, none⟩ = some (.int .i64 x.val) := z3
              go_wp2_with fail
              go_quiet (fail)
              go_wp2_with fail
              exact ⟨⟨A ++ [x], R, HL2.out, by simp, n + nq, rfl⟩, by simp [intOf]; omega⟩
        · rw [HPP.out] at hk
          cases hk
      | cons x R =>
        have hlt : (A.length : Int) < (l.length : Int) := by rw [hl]; simp; omega
        obtain ⟨b, off, rfl, hb, z0, z1, z2, z3⟩ := HREAD.out A x R hl
        have y0 := kg_chg HCq.out z0
        have y1 := kg_chg HCq.out z1
        have y2 := kg_chg HCq.out z2
        have y3 := kg_chg HCq.out z3
        have hl2 : l = (A ++ [x]) ++ R := by rw [hl]; simp
        have HL2 := Lib.hid hl2
        have hge : (0 : Int) ≤ (A.length : Int) := by omega
        clear hl hl2 z0 z1 z2 z3 hb
        by_cases hsk : skipV x
        · have HSK := Lib.hid hsk
          have k32 : ((x.kind.toNat : Int) == 32) = decide (x.kind = 32) := kind_test x.kind 32
          have k10 : ((x.kind.toNat : Int) == 10) = decide (x.kind = 10) := kind_test x.kind 10
          by_cases c1 : x.time < -9007199254740992
          · have d1 : decide (x.time < -9007199254740992) = true := decide_eq_true c1
            clear c1 hsk k32 k10
            go_wp2_with fail
            go_roundw
            case rel => exact ⟨A ++ [x], R, keepV A, HL2.out, by simp, by rw [keep_add, if_pos HSK.out, List.append_nil], HLq.out.same (by ((repeat (first | exact Chg.refl _ _ | assumption | refine Chg.drewN ?_ _ | refine Chg.drew ?_ | refine Chg.alloc ?_ _ | refine Chg.setCell ?_ (by first | (simp; done) | (simp; omega) | (intro h; simp at h; omega)) _)))), HOWN.out, HCq.out.alloc _⟩
            case measure => simp [intOf]; omega
          · have d1 : decide (x.time < -9007199254740992) = false := decide_eq_false c1
            by_cases c2 : x.time > 9007199254740992
            · have d2 : decide (x.time > 9007199254740992) = true := decide_eq_true c2
              clear c1 c2 hsk k32 k10
              go_wp2_with fail
              go_roundw
              case rel => exact ⟨A ++ [x], R, keepV A, HL2.out, by simp, by rw [keep_add, if_pos HSK.out, List.append_nil], HLq.out.same (by ((repeat (first | exact Chg.refl _ _ | assumption | refine Chg.drewN ?_ _ | refine Chg.drew ?_ | refine Chg.alloc ?_ _ | refine Chg.setCell ?_ (by first | (simp; done) | (simp; omega) | (intro h; simp at h; omega)) _)))), HOWN.out, HCq.out.alloc _⟩
              case measure => simp [intOf]; omega
            · have d2 : decide (x.time > 9007199254740992) = false := decide_eq_false c2
              by_cases c3 : x.val < -9007199254740992
              · have d3 : decide (x.val < -9007199254740992) = true := decide_eq_true c3
                clear c1 c2 c3 hsk k32 k10
                go_wp2_with fail
                go_roundw
                case rel => exact ⟨A ++ [x], R, keepV A, HL2.out, by simp, by rw [keep_add, if_pos HSK.out, List.append_nil], HLq.out.same (by ((repeat (first | exact Chg.refl _ _ | assumption | refine Chg.drewN ?_ _ | refine Chg.drew ?_ | refine Chg.alloc ?_ _ | refine Chg.setCell ?_ (by first | (simp; done) | (simp; omega) | (intro h; simp at h; omega)) _)))), HOWN.out, HCq.out.alloc _⟩
                case measure => simp [intOf]; omega
              · have d3 : decide (x.val < -9007199254740992) = false := decide_eq_false c3
                by_cases c4 : x.val > 9007199254740992
                · have d4 : decide (x.val > 9007199254740992) = true := decide_eq_true c4
                  clear c1 c2 c3 c4 hsk k32 k10
                  go_wp2_with fail
                  go_roundw
                  case rel => exact ⟨A ++ [x], R, keepV A, HL2.out, by simp, by rw [keep_add, if_pos HSK.out, List.append_nil], HLq.out.same (by ((repeat (first | exact Chg.refl _ _ | assumption | refine Chg.drewN ?_ _ | refine Chg.drew ?_ | refine Chg.alloc ?_ _ | refine Chg.setCell ?_ (by first | (simp; done) | (simp; omega) | (intro h; simp at h; omega)) _)))), HOWN.out, HCq.out.alloc _⟩
                  case measure => simp [intOf]; omega
                · have d4 : decide (x.val > 9007199254740992) = false := decide_eq_false c4
                  by_cases c5 : x.kind = 32
                  · rw [decide_eq_true c5] at k32
                    clear c1 c2 c3 c4 c5 hsk k10
                    go_wp2_with fail
                    go_roundw
                    case rel => exact ⟨A ++ [x], R, keepV A, HL2.out, by simp, by rw [keep_add, if_pos HSK.out, List.append_nil], HLq.out.same (by ((repeat (first | exact Chg.refl _ _ | assumption | refine Chg.drewN ?_ _ | refine Chg.drew ?_ | refine Chg.alloc ?_ _ | refine Chg.setCell ?_ (by first | (simp; done) | (simp; omega) | (intro h; simp at h; omega)) _)))), HOWN.out, HCq.out.alloc _⟩
                    case measure => simp [intOf]; omega
                  · rw [decide_eq_false c5] at k32
                    have c6 : x.kind = 10 := by
                      unfold skipV at hsk
                      rcases hsk with h | h | h | h | h | h
                      · exact absurd h c1
                      · exact absurd h c2
                      · exact absurd h c3
                      · exact absurd h c4
                      · exact absurd h c5
                      · exact h
                    rw [decide_eq_true c6] at k10
                    clear c1 c2 c3 c4 c5 c6 hsk
                    go_wp2_with fail
                    go_roundw
                    case rel => exact ⟨A ++ [x], R, keepV A, HL2.out, by simp, by rw [keep_add, if_pos HSK.out, List.append_nil], HLq.out.same (by ((repeat (first | exact Chg.refl _ _ | assumption | refine Chg.drewN ?_ _ | refine Chg.drew ?_ | refine Chg.alloc ?_ _ | refine Chg.setCell ?_ (by first | (simp; done) | (simp; omega) | (intro h; simp at h; omega)) _)))), HOWN.out, HCq.out.alloc _⟩
                    case measure => simp [intOf]; omega
        · have HSK := Lib.hid hsk
          unfold skipV at hsk
          have k32 : ((x.kind.toNat : Int) == 32) = false := (kind_test x.kind 32).trans (decide_eq_false fun e => hsk (by simp [e]))
          have k10 : ((x.kind.toNat : Int) == 10) = false := (kind_test x.kind 10).trans (decide_eq_false fun e => hsk (by simp [e]))
          have d1 : decide (x.time < -9007199254740992) = false := decide_eq_false (by omega)
          have d2 : decide (x.time > 9007199254740992) = false := decide_eq_false (by omega)
          have d3 : decide (x.val < -9007199254740992) = false := decide_eq_false (by omega)
          have d4 : decide (x.val > 9007199254740992) = false := decide_eq_false (by omega)
          clear hsk
          obtain ⟨w2, hw2⟩ : ∃ w2, w2 = wq.alloc (.cells #[.bool x.mark, .int .i64 x.time, .int .u8 (x.kind.toNat : Int), .int .i64 x.val] 39) := ⟨_, rfl⟩
          obtain ⟨g, hg⟩ : ∃ g, wq.heap.size = g := ⟨_, rfl⟩
          have hb2 : Blk w2 g 39 #[.bool x.mark, .int .i64 x.time, .int .u8 (x.kind.toNat : Int), .int .i64 x.val] := by rw [hw2, ← hg]; exact Blk.new _ _ _
          have hgw : w.heap.size ≤ g := by rw [← hg]; exact HCq.out.size
          have hc2 : Chg (fun _ => False) w w2 := by rw [hw2]; exact HCq.out.alloc _
          have hL2 : Lst itemC w2 (.slice xa (keepV A).length xc) (keepV A) := HLq.out.same (by rw [hw2]; ((repeat (first | exact Chg.refl _ _ | assumption | refine Chg.drewN ?_ _ | refine Chg.drew ?_ | refine Chg.alloc ?_ _ | refine Chg.setCell ?_ (by first | (simp; done) | (simp; omega) | (intro h; simp at h; omega)) _))))
          have HW2 := Lib.hid hw2
          have HB2 := Lib.hid hb2
          have HC2 := Lib.hid hc2
          have HLL2 := Lib.hid hL2
          have HG := Lib.hid hg
          go_upto_region 8 with fail
          rw [← HW2.out]
          clear y0 y1 y2 y3 hw2 hb2 hc2 hL2
          have y0 := HB2.out.cell 0
          have y1 := HB2.out.cell 1
          have y2 := HB2.out.cell 2
          have y3 := HB2.out.cell 3
          have f2 := HB2.out.frozen 2
          have f3 := HB2.out.frozen 3
          have hgl := HB2.out.lt
          simp at y0 y1 y2 y3
          cases hm : x.mark with
          | false =>
            have hno : normV x = x := by unfold normV; rw [hm]; rfl
            obtain ⟨w3, hw3⟩ : ∃ w3, w3 = w2.alloc (.cells #[.bool false, .int .i64 x.time, .int .u8 (x.kind.toNat : Int), .int .i64 x.val] 37) := ⟨_, rfl⟩
            obtain ⟨g3, hg3⟩ : ∃ g3, w2.heap.size = g3 := ⟨_, rfl⟩
            have hbk : Blk w3 g3 37 (itemC.g (normV x)).toArray := by rw [hno, hw3, ← hg3]; show Blk _ _ _ #[.bool x.mark, .int .i64 x.time, .int .u8 (x.kind.toNat : Int), .int .i64 x.val]; rw [hm]; exact Blk.new _ _ _
            have HC3 := Lib.hid (show Chg (fun _ => False) w w3 by rw [hw3]; exact HC2.out.alloc _)
            have HL3 := Lib.hid (show Lst itemC w3 (.slice xa (keepV A).length xc) (keepV A) from HLL2.out.same (by rw [hw3]; ((repeat (first | exact Chg.refl _ _ | assumption | refine Chg.drewN ?_ _ | refine Chg.drew ?_ | refine Chg.alloc ?_ _ | refine Chg.setCell ?_ (by first | (simp; done) | (simp; omega) | (intro h; simp at h; omega)) _)))))
            have HBK := Lib.hid hbk
            have HW3 := Lib.hid hw3
            rw [hm] at y0
            clear hbk hw3 hno
            go_wp2_with (at_builtin; rw [← HW3.out]; refine wpList_lst_app itemOk _ (by rfl) _ _ (by rfl) (keepV A) (.slice xa (keepV A).length xc) (normV x) (by rfl) HL3.out g3 (by rfl) (by omega) HBK.out ?_)
            intro v' w4 hO hc4 hk4
            obtain ⟨ya, yc, ex, _⟩ := item_form hO
            subst ex
            have hcw : Chg (fun _ => False) w w4 := HC3.out.trans hc4 fun j hj e => by
              have := HOWN.out j e
              omega
            have hown2 : ∀ j, (Value.slice ya (keepV A ++ [normV x]).length yc).ownBlock = some j → w.heap.size ≤ j := fun j e => by
              rcases hk4 j e with h | h
              · exact HOWN.out j h
              · have := HC3.out.size; omega
            have HO := Lib.hid hO
            have HCW := Lib.hid hcw
            have HOW2 := Lib.hid hown2
            clear hO hc4 hk4 hcw hown2
            go_wp2_with fail
            go_roundw
            case rel => exact ⟨A ++ [x], R, keepV A ++ [normV x], HL2.out, by simp, by rw [keep_add, if_neg HSK.out], HO.out, HOW2.out, HCW.out⟩
            case measure => simp [intOf]; omega
          | true =>
            have hno : normV x = ⟨true, x.time, 0, 0⟩ := by unfold normV; rw [hm]; rfl
            obtain ⟨w2b, hw2b⟩ : ∃ w2b, w2b = (w2.setCell ⟨g, 2, none⟩ (.int .u8 0)).setCell ⟨g, 3, none⟩ (.int .i64 0) := ⟨_, rfl⟩
            have hb2b : Blk w2b g 39 #[.bool true, .int .i64 x.time, .int .u8 0, .int .i64 0] := by
              rw [hw2b]
              have := ((HB2.out.set_ 2 (.int .u8 0)).set_ 3 (.int .i64 0))
              rw [hm] at this
              simpa using this
            have hc2b : Chg (fun _ => False) w w2b := by rw [hw2b]; have := HC2.out; ((repeat (first | with_reducible exact Chg.refl _ _ | with_reducible assumption | with_reducible refine Chg.drewN ?_ _ | with_reducible refine Chg.drew ?_ | with_reducible refine Chg.alloc ?_ _ | with_reducible refine Chg.setCell ?_ (by first | (simp; done) | (simp; omega) | (intro h; simp at h; omega)) _)))
            have hl2b : Lst itemC w2b (.slice xa (keepV A).length xc) (keepV A) := HLL2.out.chg (S := fun k => k = g) (by rw [hw2b]; ((repeat (first | with_reducible exact Chg.refl _ _ | with_reducible assumption | with_reducible refine Chg.drewN ?_ _ | with_reducible refine Chg.drew ?_ | with_reducible refine Chg.alloc ?_ _ | with_reducible refine Chg.setCell ?_ (by first | (simp; done) | (simp; omega) | (intro h; simp at h; omega)) _)))) fun k hk e => by
              obtain ⟨cs, hb⟩ := HLL2.out.typed hk
              subst e
              exact hb.ne_ HB2.out (by decide) rfl
            obtain ⟨w3, hw3⟩ : ∃ w3, w3 = w2b.alloc (.cells #[.bool true, .int .i64 x.time, .int .u8 0, .int .i64 0] 37) := ⟨_, rfl⟩
            obtain ⟨g3, hg3⟩ : ∃ g3, w2b.heap.size = g3 := ⟨_, rfl⟩
            have hbk : Blk w3 g3 37 (itemC.g (normV x)).toArray := by rw [hno, hw3, ← hg3]; exact Blk.new _ _ _
            have HC3 := Lib.hid (show Chg (fun _ => False) w w3 by rw [hw3]; exact hc2b.alloc _)
            have HL3 := Lib.hid (show Lst itemC w3 (.slice xa (keepV A).length xc) (keepV A) from hl2b.same (by rw [hw3]; ((repeat (first | exact Chg.refl _ _ | assumption | refine Chg.drewN ?_ _ | refine Chg.drew ?_ | refine Chg.alloc ?_ _ | refine Chg.setCell ?_ (by first | (simp; done) | (simp; omega) | (intro h; simp at h; omega)) _)))))
            have HBK := Lib.hid hbk
            have HW3 := Lib.hid hw3
            have HW2B := Lib.hid hw2b
            have HB2B := Lib.hid hb2b
            rw [hm] at y0
            clear hbk hw3 hno hw2b hb2b hc2b hl2b
            go_upto_region 11 with fail
            rw [← HW2B.out]
            clear y0 y1 y2 y3
            have y0 := HB2B.out.cell 0
            have y1 := HB2B.out.cell 1
            have y2 := HB2B.out.cell 2
            have y3 := HB2B.out.cell 3
            simp at y0 y1 y2 y3
            go_wp2_with (at_builtin; rw [← HW3.out]; refine wpList_lst_app itemOk _ (by rfl) _ _ (by rfl) (keepV A) (.slice xa (keepV A).length xc) (normV x) (by rfl) HL3.out g3 (by rfl) (by omega) HBK.out ?_)
            intro v' w4 hO hc4 hk4
            obtain ⟨ya, yc, ex, _⟩ := item_form hO
            subst ex
            have hcw : Chg (fun _ => False) w w4 := HC3.out.trans hc4 fun j hj e => by
              have := HOWN.out j e
              omega
            have hown2 : ∀ j, (Value.slice ya (keepV A ++ [normV x]).length yc).ownBlock = some j → w.heap.size ≤ j := fun j e => by
              rcases hk4 j e with h | h
              · exact HOWN.out j h
              · have := HC3.out.size; omega
            have HO := Lib.hid hO
            have HCW := Lib.hid hcw
            have HOW2 := Lib.hid hown2
            clear hO hc4 hk4 hcw hown2
            go_wp2_with fail
            go_roundw
            case rel => exact ⟨A ++ [x], R, keepV A ++ [normV x], HL2.out, by simp, by rw [keep_add, if_neg HSK.out], HO.out, HOW2.out, HCW.out⟩
            case measure => simp [intOf]; omega
end Go.Proofs.YtihkackkbdnagaaDoor
