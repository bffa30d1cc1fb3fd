/-
  The document's text of items.
-/
import Derived.Test.YtihkackkbdnagaaDoorFeeJ
import Derived.Test.YtihkackkbdnagaaDoorFeeH
namespace Go.Proofs.YtihkackkbdnagaaDoor
open Go.RowKit Go.Shelf
set_option linter.unusedVariables false
set_option linter.unusedSimpArgs false

theorem doc2_read {w : World} {v : Value} {l : List ItemV} (h : Lst docC2 w v l) : ∃ a cap, v = .slice a l.length cap ∧ l.length ≤ cap ∧ l.length ≤ 9223372036854775807 ∧ ∀ A x B, l = A ++ x :: B → ∃ b, a = some ⟨b, 0, none⟩ ∧ b < w.heap.size ∧ v.ownBlock = some b ∧
    w.cell? ⟨b, A.length * 4, none⟩ = some (.bool x.mark) ∧ w.cell? ⟨b, A.length * 4 + 1, none⟩ = some (.int .i64 x.time) ∧ w.cell? ⟨b, A.length * 4 + 2, none⟩ = some (.int .u8 (x.kind.toNat : Int)) ∧ w.cell? ⟨b, A.length * 4 + 3, none⟩ = some (.int .i64 x.val) := by
  obtain ⟨a, cap, rfl, h1, h2, h3⟩ := h.form docOk2
  refine ⟨a, cap, rfl, h1, h2, fun A x B hl => ?_⟩
  obtain ⟨b, rfl, hb, ho, hc⟩ := h3 A x B hl
  exact ⟨b, rfl, hb, ho, hc 0 _ rfl, hc 1 _ rfl, hc 2 _ rfl, hc 3 _ rfl⟩
set_option maxRecDepth 100000 in
set_option maxHeartbeats 2000000 in
theorem r3_show (v : Value) (l : List ItemV) (w : World) (hL : Lst docC2 w v l) (hfit : ∀ x ∈ l, Fit x) (hlen : l.length ≤ 1000000000) : Calls Tryd.prog 10 #[v] w fun e w' => e = .returned (.string ⟨(showV l).toArray⟩) ∧ Chg (fun _ => False) w w' := by
  obtain ⟨a, cap, rfl, h1, h2, hread⟩ := doc2_read hL
  have HREAD := Lib.hid hread
  have HFIT := Lib.hid hfit
  clear hread hfit hL
  go_enter Tryd.func10, Tryd.ntmps10
  go_wp2_with fail
  go_loopw [3, 4] (fun s i wr => ∃ A R S, l = A ++ R ∧ i = .int .i64 (A.length : Int) ∧ s = .string S ∧ S.data.toList = showV A ∧ Chg (fun _ => False) w wr) (fun _ i _ => l.length - (intOf i).toNat)
  case atStart => exact ⟨[], l, ⟨#[]⟩, rfl, rfl, rfl, rfl, Chg.refl _ _⟩
  case round =>
    obtain ⟨A, R, S, hl, rfl, rfl, hS, hcr⟩ := hrel
    have hAl : A.length ≤ l.length := by rw [hl]; simp
    have HCR := Lib.hid hcr
    have HS := Lib.hid hS
    obtain ⟨wq, rfl⟩ : ∃ wq : World, wq = wr := ⟨_, rfl⟩
    clear hcr hS
    cases R with
    | nil =>
      have hge : ¬ ((A.length : Int) < (l.length : Int)) := by rw [hl]; simp
      have hE : l = A := by rw [hl]; simp
      have HE := Lib.hid hE
      clear hl hE
      go_wp2_with fail
      go_ret
      exact ⟨congrArg (fun x => Ending.returned (.string x)) (ba_eq (by rw [HS.out, HE.out])), HCR.out⟩
    | cons x R =>
      have hlt : (A.length : Int) < (l.length : Int) := by rw [hl]; simp; omega
      obtain ⟨b, rfl, hb, hob, z0, z1, z2, z3⟩ := HREAD.out A x R hl
      have y0 := kg_chg HCR.out z0
      have y1 := kg_chg HCR.out z1
      have y2 := kg_chg HCR.out z2
      have y3 := kg_chg HCR.out z3
      obtain ⟨t1, t2, v1, v2⟩ := HFIT.out x (by rw [hl]; simp)
      have hfA : ∀ y ∈ A, Fit y := fun y hy => HFIT.out y (by rw [hl]; simp [hy])
      have hshl := showV_len hfA
      have hl2 : l = (A ++ [x]) ++ R := by rw [hl]; simp
      have HL2 := Lib.hid hl2
      have hge : (0 : Int) ≤ (A.length : Int) := by omega
      have hSs : S.size ≤ 51000000000 := by
        have e : S.data.toList.length = S.size := by rw [Array.length_toList]; rfl
        rw [← e, HS.out]; omega
      obtain ⟨m, t, k, v⟩ := x
      simp only at t1 t2 v1 v2 y0 y1 y2 y3
      have hf1 := fun W => r3_decimal t t1 t2 W
      have hf2 := fun W => r3_decimal v v1 v2 W
      have e1 : (Lib.itoa t).toArray.size ≤ 21 := by simpa using Lib.itoa_length_le t t1 t2
      have e2 : (Lib.itoa v).toArray.size ≤ 21 := by simpa using Lib.itoa_length_le v v1 v2
      obtain ⟨T, hT⟩ : ∃ T : ByteArray, (⟨(Lib.itoa t).toArray⟩ : ByteArray) = T := ⟨_, rfl⟩
      obtain ⟨V, hV⟩ : ∃ V : ByteArray, (⟨(Lib.itoa v).toArray⟩ : ByteArray) = V := ⟨_, rfl⟩
      have hTl : Lib.itoa t = T.data.toList := by rw [← hT]
      have hVl : Lib.itoa v = V.data.toList := by rw [← hV]
      have s1 : T.size ≤ 21 := by rw [← hT]; exact e1
      have s2 : V.size ≤ 21 := by rw [← hV]; exact e2
      simp only [hT] at hf1
      simp only [hV] at hf2
      have HF1 := Lib.hid hf1
      have HF2 := Lib.hid hf2
      have HT := Lib.hid hTl
      have HV := Lib.hid hVl
      have c1 : (⟨#[77, 32]⟩ : ByteArray).size = 2 := rfl
      have c2 : (⟨#[69, 32]⟩ : ByteArray).size = 2 := rfl
      have c3 : (⟨#[32]⟩ : ByteArray).size = 1 := rfl
      have c4 : (⟨#[10]⟩ : ByteArray).size = 1 := rfl
      have c5 : (⟨#[k]⟩ : ByteArray).size = 1 := rfl
      cases m with
      | true =>
        have a1 := add_ok S ⟨#[77, 32]⟩ (by omega)
        have a2 := add_ok (S ++ ⟨#[77, 32]⟩) T (by rw [ByteArray.size_append]; omega)
        have a3 := add_ok (S ++ ⟨#[77, 32]⟩ ++ T) ⟨#[10]⟩ (by rw [ByteArray.size_append, ByteArray.size_append]; omega)
        clear hf1 hf2 hT hV hTl hVl e1 e2 t1 t2 v1 v2 c1 c2 c3 c4 c5 hl hl2 hfA z0 z1 z2 z3 hb hob
        go_wp2_with fail
        refine (HF1.out _).mono ?_
        rintro e w2 ⟨rfl, hc2⟩
        have y0 := kg_chg hc2 y0
        have HC2 := Lib.hid (HCR.out.then hc2)
        clear hc2
        go_wp2_with fail
        go_roundw
        case rel => exact ⟨A ++ [⟨true, t, k, v⟩], R, _, HL2.out, by simp, rfl, by rw [showV_add, ← HS.out]; simp [lineV, HT.out], HC2.out⟩
        case measure => simp [intOf]; omega
      | false =>
        have a1 := add_ok S ⟨#[69, 32]⟩ (by omega)
        have a2 := add_ok (S ++ ⟨#[69, 32]⟩) T (by rw [ByteArray.size_append]; omega)
        have a3 := add_ok (S ++ ⟨#[69, 32]⟩ ++ T) ⟨#[32]⟩ (by rw [ByteArray.size_append, ByteArray.size_append]; omega)
        have a4 := add_ok (S ++ ⟨#[69, 32]⟩ ++ T ++ ⟨#[32]⟩) ⟨#[k]⟩ (by rw [ByteArray.size_append, ByteArray.size_append, ByteArray.size_append]; omega)
        have a5 := add_ok (S ++ ⟨#[69, 32]⟩ ++ T ++ ⟨#[32]⟩ ++ ⟨#[k]⟩) ⟨#[32]⟩ (by rw [ByteArray.size_append, ByteArray.size_append, ByteArray.size_append, ByteArray.size_append]; omega)
        have a6 := add_ok (S ++ ⟨#[69, 32]⟩ ++ T ++ ⟨#[32]⟩ ++ ⟨#[k]⟩ ++ ⟨#[32]⟩) V (by rw [ByteArray.size_append, ByteArray.size_append, ByteArray.size_append, ByteArray.size_append, ByteArray.size_append]; omega)
        have a7 := add_ok (S ++ ⟨#[69, 32]⟩ ++ T ++ ⟨#[32]⟩ ++ ⟨#[k]⟩ ++ ⟨#[32]⟩ ++ V) ⟨#[10]⟩ (by rw [ByteArray.size_append, ByteArray.size_append, ByteArray.size_append, ByteArray.size_append, ByteArray.size_append, ByteArray.size_append]; omega)
        clear hf1 hf2 hT hV hTl hVl e1 e2 t1 t2 v1 v2 c1 c2 c3 c4 c5 hl hl2 hfA z0 z1 z2 z3 hb hob
        go_wp2_with fail
        refine (HF1.out _).mono ?_
        rintro e w2 ⟨rfl, hc2⟩
        have y0 := kg_chg hc2 y0
        have y3 := kg_chg hc2 y3
        have y2 := kg_chg hc2 y2
        have HC2 := Lib.hid (HCR.out.then hc2)
        clear hc2
        go_wp2_with fail
        refine (HF2.out _).mono ?_
        rintro e w3 ⟨rfl, hc3⟩
        have y2 := kg_chg hc3 y2
        have HC3 := Lib.hid (HC2.out.then hc3)
        have hcv := run_oneC w3.heap.size k (w3.alloc (.cells #[.int .u8 (k.toNat : Int)] 5)) (kg_new _ _ _)
        clear hc3
        go_wp2_with fail
        go_roundw
        case rel => exact ⟨A ++ [⟨false, t, k, v⟩], R, _, HL2.out, by simp, rfl, by rw [showV_add, ← HS.out]; simp [lineV, HT.out, HV.out], HC3.out.alloc _⟩
        case measure => simp [intOf]; omega
end Go.Proofs.YtihkackkbdnagaaDoor
