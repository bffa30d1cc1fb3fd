/-
  The program's frame: All.
-/
import Derived.Test.YtjfbcjmnjlehaaaGreatDoorFraC
import Derived.Test.YtjfbcjmnjlehaaaGreatDoorLst
namespace Go.Proofs.YtjfbcjmnjlehaaaGreatDoor
open Go.RowKit
set_option linter.unusedVariables false
set_option linter.unusedSimpArgs false

def strC : Codec ByteArray := ⟨fun x => [.string x], 1, 9, 43, .string ⟨#[]⟩, 16⟩
theorem strOk : strC.Ok := ⟨fun _ => rfl, by decide, fun x v hv => by simp [strC] at hv; subst hv; rfl, Tryz.underlying43, by kernel_rfl, rfl, by decide⟩
theorem str_form {w : World} {v : Value} {l : List ByteArray} (h : Lst strC w v l) : ∃ a cap, v = .slice a l.length cap ∧ l.length ≤ cap ∧ l.length ≤ 9223372036854775807 ∧ ∀ A x B, l = A ++ x :: B → ∃ b, a = some ⟨b, 0, none⟩ ∧ b < w.heap.size ∧ v.ownBlock = some b ∧
    w.cell? ⟨b, A.length, none⟩ = some (.string x) := by
  obtain ⟨a, cap, e, h1, h2, h3⟩ := h.form strOk
  refine ⟨a, cap, e, h1, h2, fun A x B hl => ?_⟩
  obtain ⟨b, eb, hb, ho, hc⟩ := h3 A x B hl
  have := hc 0 _ rfl
  exact ⟨b, eb, hb, ho, by simpa [strC] using this⟩
/-- Bytes as lists. -/
def bl (l : List ByteArray) : List (List UInt8) := l.map fun b => b.data.toList
def AllPost (w : World) (s : ByteArray) (e : Ending) (w' : World) : Prop :=
  ∃ (v : Value) (l : List ByteArray) (n : Nat), e = .returned (.tuple #[v, .int .i64 (n : Int), .int .i64 ((allF s.data.toList).2 : Int)]) ∧ bl l = (allF s.data.toList).1 ∧ Lst strC w' v l ∧ l.length ≤ s.size ∧ Chg (fun _ => False) w w'
theorem allF_ne (l : List UInt8) : (allF l).2 ≠ 0 := by
  induction l using allF.induct with
  | case1 l h _ ih => rw [allF_yes h]; exact ih
  | case2 l h => rw [allF_no h]; exact h

set_option maxRecDepth 100000 in
set_option maxHeartbeats 2000000 in
theorem fra_all (s : ByteArray) (w : World) (hs : s.size ≤ 1000000000) : Calls Tryz.prog 46 #[.string s] w (AllPost w s) := by
  have hg := fun k (hk : k ≤ s.size) w => fra_get s k w hs hk
  have HG := Lib.hid hg
  clear hg
  go_enter Tryz.func46, Tryz.ntmps46
  go_wp2_with fail
  go_loopw [5, 6] (fun v i wr => ∃ (k : Nat) (l : List ByteArray), k ≤ s.size ∧ i = .int .i64 k ∧ Lst strC wr v l ∧ l.length ≤ k ∧ (∀ j, v.ownBlock = some j → w.heap.size ≤ j) ∧ allF s.data.toList = (bl l ++ (allF (s.data.toList.drop k)).1, (allF (s.data.toList.drop k)).2) ∧ Chg (fun _ => False) w wr) (fun _ i _ => s.size + 1 - (intOf i).toNat)
  case atStart => exact ⟨0, [], by omega, rfl, Lst.nil _ _, by simp, by simp [Value.ownBlock], by simp [bl], Chg.refl _ _⟩
  case round =>
    obtain ⟨k, l, hk, rfl, hL, hlk, hown, hall, hcr⟩ := hrel
    obtain ⟨la, lc, rfl, h1, h2, _⟩ := str_form hL
    have HL := Lib.hid hL
    have HALL := Lib.hid hall
    have HOWN := Lib.hid hown
    have HCR := Lib.hid hcr
    obtain ⟨wq, rfl⟩ : ∃ wq : World, wq = wr := ⟨_, rfl⟩
    clear hL hall hown hcr
    go_wp2_with fail
    refine (HG.out k hk _).mono ?_
    rintro e w1 (⟨b, h0, hb, rfl, hc1⟩ | ⟨hne, rfl, hc1⟩)
    · have hz := getF_zero h0
      rw [List.length_drop, Array.length_toList] at hz
      have hsz : s.data.size = s.size := rfl
      rw [hsz] at hz
      obtain ⟨m, hm⟩ : ∃ m, 8 + fraN (s.data.toList.drop k) = m := ⟨_, rfl⟩
      have hall2 : allF s.data.toList = (bl (l ++ [b]) ++ (allF (s.data.toList.drop (k + m))).1, (allF (s.data.toList.drop (k + m))).2) := by
        rw [HALL.out, allF_yes h0, ← hb, hm, List.drop_drop]
        simp [bl]
      rw [hm] at hz ⊢
      obtain ⟨_, hz2, _, _⟩ := hz
      have hm8 : 8 ≤ m := by omega
      have hL1 := HL.out.same (hc1.then ((Chg.refl _ w1).alloc (.cells #[.string b] 9)))
      have hbk : Blk (w1.alloc (.cells #[.string b] 9)) w1.heap.size 9 #[.string b] := Blk.new _ _ _
      have hs1 : w.heap.size ≤ w1.heap.size := (HCR.out.then hc1).size
      have HL1 := Lib.hid hL1
      have HBK := Lib.hid hbk
      have HA2 := Lib.hid hall2
      have HM := Lib.hid hm
      have HC1 := Lib.hid hc1
      clear hL1 hbk hall2 hm hc1 h0 hb hsz
      go_wp2_with (at_builtin; refine wpList_lst_app strOk _ (by rfl) _ _ (by rfl) l (.slice la l.length lc) b (by rfl) HL1.out w1.heap.size (by rfl) (by omega) HBK.out ?_)
      intro v' w2 hO hc2 hk2
      obtain ⟨xa, xc, ex, _⟩ := str_form hO
      subst ex
      have hcw : Chg (fun _ => False) w w2 := by
        refine ((HCR.out.then HC1.out).alloc _).trans hc2 fun j hj e => ?_
        have := HOWN.out j e
        omega
      have hown2 : ∀ j, (Value.slice xa (l ++ [b]).length xc).ownBlock = some j → w.heap.size ≤ j := fun j e => by
        rcases hk2 j e with h | h
        · exact HOWN.out j h
        · omega
      have HO := Lib.hid hO
      have HCW := Lib.hid hcw
      have HOW2 := Lib.hid hown2
      clear hO hc2 hk2 hcw hown2
      go_wp2_with fail
      refine ⟨⟨k + m, l ++ [b], by omega, rfl, HO.out, by simp; omega, HOW2.out, HA2.out, HCW.out⟩, by simp [intOf]; omega⟩
    · have he : allF (s.data.toList.drop k) = ([], getF (s.data.toList.drop k)) := allF_no hne
      obtain ⟨g, hg⟩ : ∃ g, getF (s.data.toList.drop k) = g := ⟨_, rfl⟩
      rw [hg] at hne he ⊢
      have hq1 : ((g : Int) != 0) = true := by simp; omega
      have hq2 : ((g : Int) == 0) = false := by simp; omega
      have HE := Lib.hid he
      have HC1 := Lib.hid hc1
      clear hg he hc1
      go_wp2_with fail
      refine bodyPost_ret (v := .tuple #[.slice la l.length lc, .int .i64 (k : Int), .int .i64 (g : Int)]) (by simp [results, Tryz.results46, go_sem]) rfl ⟨_, l, k, ?_, ?_, HL.out.same HC1.out, by omega, HCR.out.then HC1.out⟩
      · rw [HALL.out, HE.out]
      · rw [HALL.out, HE.out]
        simp
end Go.Proofs.YtjfbcjmnjlehaaaGreatDoor
