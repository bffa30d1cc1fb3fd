/-
  The program's items of a text.
-/
import Derived.Test.YtjloddlkleileaaGreatDoorFeeC
import Derived.Test.YtjloddlkleileaaGreatDoorLst
namespace Go.Proofs.YtjloddlkleileaaGreatDoor
open Go.RowKit Go.Shelf
set_option linter.unusedVariables false
set_option linter.unusedSimpArgs false

def itemG (x : ItemV) : List Value := [.bool x.mark, .int .i64 x.time, .int .u8 (x.kind.toNat : Int), .int .i64 x.val]
def itemC : Codec ItemV := ⟨itemG, 4, 56, 26, .agg #[.bool false, .int .i64 0, .int .u8 0, .int .i64 0], 32⟩
theorem itemOk : itemC.Ok := ⟨fun _ => rfl, by decide, fun x v hv => by simp [itemC, itemG] at hv; rcases hv with rfl | rfl | rfl | rfl <;> rfl, Tryz.underlying26, by kernel_rfl, rfl, by decide⟩
theorem item_form {w : World} {v : Value} {l : List ItemV} (h : Lst itemC w v l) : ∃ a cap, v = .slice a l.length cap ∧ l.length ≤ cap ∧ l.length ≤ 9223372036854775807 := by
  obtain ⟨a, cap, e, h1, h2, _⟩ := h.form itemOk
  exact ⟨a, cap, e, h1, h2⟩
def docC2 : Codec ItemV := ⟨itemG, 4, 57, 27, .agg #[.bool false, .int .i64 0, .int .u8 0, .int .i64 0], 32⟩
theorem docOk2 : docC2.Ok := ⟨fun _ => rfl, by decide, fun x v hv => by simp [docC2, itemG] at hv; rcases hv with rfl | rfl | rfl | rfl <;> rfl, Tryz.underlying27, by kernel_rfl, rfl, by decide⟩
theorem doc2_form {w : World} {v : Value} {l : List ItemV} (h : Lst docC2 w v l) : ∃ a cap, v = .slice a l.length cap ∧ l.length ≤ cap ∧ l.length ≤ 9223372036854775807 := by
  obtain ⟨a, cap, e, h1, h2, _⟩ := h.form docOk2
  exact ⟨a, cap, e, h1, h2⟩
theorem ren_cut : Tryz.strCut_ren.f 145 = 35 := by kernel_rfl
theorem ren_cut_g : Tryz.strCut_ren.g 1 = 0 := by kernel_rfl
theorem str_cut (s : ByteArray) (w : World) (hs : s.size ≤ 4294967280) (hm : MaxOk w) : Calls Tryz.prog 35 #[.string s, .string ⟨#[10]⟩] w fun e w' =>
    e = .returned (.tuple #[.string ⟨(Lib.cut s.data.toList [10]).1.toArray⟩, .string ⟨(Lib.cut s.data.toList [10]).2.1.toArray⟩, .bool (Lib.cut s.data.toList [10]).2.2]) ∧ Chg (fun _ => False) w w' := by
  obtain ⟨m, hm⟩ := hm
  have h := Any.strings_Cut Tryz.strCut s ⟨#[10]⟩ m w (by omega) (by rw [ren_cut_g]; exact hm)
  rw [ren_cut] at h
  exact h.mono fun e w' ⟨he, n, hw⟩ => ⟨he, by rw [hw]; ((repeat (first | exact Chg.refl _ _ | assumption | refine Chg.drewN ?_ _ | refine Chg.drew ?_ | refine Chg.alloc ?_ _ | refine Chg.setCell ?_ (by first | (simp; done) | (simp; omega) | (intro h; simp at h; omega)) _)))⟩
theorem cut_less {s : List UInt8} (h : s ≠ []) : (Lib.cut s [10]).2.1.length < s.length ∧ (Lib.cut s [10]).1.length ≤ s.length := by
  by_cases hc : (10 : UInt8) ∈ s
  · obtain ⟨a, b, rfl, ha⟩ := first_at 10 s hc
    rw [cut_hit 10 a b ha]
    simp only [List.length_append, List.length_cons]
    omega
  · rw [cut_miss 10 s hc]
    exact ⟨List.length_pos_iff.2 h, Nat.le_refl _⟩
theorem parseF_step (n : Nat) (s : List UInt8) (out : List ItemV) (h : s ≠ []) : parseF (n + 1) s out = match itemL (Lib.cut s [10]).1, (Lib.cut s [10]).2.2 with | some x, true => parseF n (Lib.cut s [10]).2.1 (out ++ [x]) | _, _ => .inr out.length := by
  rw [parseF, if_neg h]
  obtain ⟨⟨a, b, c⟩, hc⟩ : ∃ x, Lib.cut s [10] = x := ⟨_, rfl⟩
  rw [hc]
  clear hc
  cases hi : itemL a with
  | none => cases c <;> simp [hi]
  | some x => cases c <;> simp [hi]
theorem parseF_more : ∀ (n m : Nat) (s : List UInt8) (out : List ItemV), s.length < n → s.length < m → parseF n s out = parseF m s out
  | 0, _, s, _, h, _ => absurd h (Nat.not_lt_zero _)
  | _, 0, s, _, _, h => absurd h (Nat.not_lt_zero _)
  | n + 1, m + 1, s, out, h1, h2 => by
    by_cases hs : s = []
    · subst hs
      rw [parseF, parseF, if_pos rfl, if_pos rfl]
    · rw [parseF_step _ _ _ hs, parseF_step _ _ _ hs]
      have := (cut_less hs).1
      split
      · exact parseF_more n m _ _ (by omega) (by omega)
      · rfl
def ParseAt (w' : World) (s : List UInt8) (e : Ending) : Prop := (∃ v l, parseV s = .inl l ∧ e = .returned (.tuple #[v, .int .i64 0, .int .i64 0]) ∧ Lst itemC w' v l) ∨ (∃ k : Nat, parseV s = .inr k ∧ e = .returned (.tuple #[.slice none 0 0, .int .i64 (k : Int), .int .i64 4]))
set_option maxRecDepth 100000 in
set_option maxHeartbeats 4000000 in
theorem fd_parse (s : ByteArray) (hs : s.size ≤ 1000000000) (w : World) (ht : Tab w) (he : ErrOk w) (hm : MaxOk w) : Calls Tryz.prog 21 #[.string s] w fun e w' => ParseAt w' s.data.toList e ∧ Chg (fun _ => False) w w' := by
  have hcut := fun (r : ByteArray) (hr : r.size ≤ 4294967280) W (hW : Chg (fun _ => False) w W) => str_cut r W hr (hm.chg hW)
  have hitem := fun (r : ByteArray) (hr : r.size ≤ 4294967280) W (hW : Chg (fun _ => False) w W) => fd_item r hr W (ht.chg hW) (he.chg hW) (hm.chg hW)
  have HCUT := Lib.hid hcut
  have HITEM := Lib.hid hitem
  clear hcut hitem ht he hm
  obtain ⟨P, hP⟩ : ∃ P, parseV s.data.toList = P := ⟨_, rfl⟩
  have HP := Lib.hid hP
  clear hP
  go_enter Tryz.func21, Tryz.ntmps21
  go_wp2_with fail
  go_loopw [0, 5] (fun u v wr => ∃ (r : ByteArray) (l : List ItemV), u = .string r ∧ Lst itemC wr v l ∧ (∀ j, v.ownBlock = some j → w.heap.size ≤ j) ∧ l.length + r.size ≤ s.size ∧ parseF (r.data.toList.length + 1) r.data.toList l = P ∧ Chg (fun _ => False) w wr) (fun u _ _ => match u with | .string r => r.size | _ => 0)
  case atStart => exact ⟨s, [], rfl, Lst.nil _ _, by simp [Value.ownBlock], by simp, HP.out, Chg.refl _ _⟩
  case round =>
    obtain ⟨r, l, rfl, hL, hown, hls, hpf, hcr⟩ := hrel
    obtain ⟨la, lc, rfl, h1, h2⟩ := item_form hL
    have HL := Lib.hid hL
    have HOWN := Lib.hid hown
    have HCR := Lib.hid hcr
    obtain ⟨wq, rfl⟩ : ∃ wq : World, wq = wr := ⟨_, rfl⟩
    clear hL hown hcr
    by_cases hr0 : r.data.toList = []
    · have hie : r.toList.isEmpty = true := by rw [ByteArray.toList_eq, hr0]; rfl
      have hP2 : P = .inl l := by rw [← hpf, hr0]; rfl
      have HP2 := Lib.hid hP2
      clear hpf hP2 hr0
      go_wp2_with fail
      refine bodyPost_ret (v := .tuple #[.slice la l.length lc, .int .i64 0, .int .i64 0]) (by simp [results, Tryz.results21, go_sem]) rfl ⟨.inl ⟨_, l, HP.out.trans HP2.out, rfl, HL.out⟩, HCR.out⟩
    · have hie : r.toList.isEmpty = false := by rw [ByteArray.toList_eq, List.isEmpty_eq_false_iff]; exact hr0
      have hless := cut_less hr0
      rw [parseF_step _ _ _ hr0] at hpf
      have hc := HCUT.out r (by omega) wq HCR.out
      obtain ⟨ln, hln⟩ : ∃ ln : ByteArray, (⟨(Lib.cut r.data.toList [10]).1.toArray⟩ : ByteArray) = ln := ⟨_, rfl⟩
      obtain ⟨rs, hrs⟩ : ∃ rs : ByteArray, (⟨(Lib.cut r.data.toList [10]).2.1.toArray⟩ : ByteArray) = rs := ⟨_, rfl⟩
      obtain ⟨wh, hwh⟩ : ∃ wh, (Lib.cut r.data.toList [10]).2.2 = wh := ⟨_, rfl⟩
      have hll : (Lib.cut r.data.toList [10]).1 = ln.data.toList := by rw [← hln]
      have hrl : (Lib.cut r.data.toList [10]).2.1 = rs.data.toList := by rw [← hrs]
      rw [hln, hrs, hwh] at hc
      rw [hll, hrl, hwh] at hpf
      rw [hll, hrl] at hless
      have e1 : ln.data.toList.length = ln.size := by rw [Array.length_toList]; rfl
      have e2 : rs.data.toList.length = rs.size := by rw [Array.length_toList]; rfl
      have e3 : r.data.toList.length = r.size := by rw [Array.length_toList]; rfl
      rw [e1, e2, e3] at hless
      rw [e3] at hpf
      have HC := Lib.hid hc
      have HPF := Lib.hid hpf
      have HE2 := Lib.hid e2
      clear hc hpf hln hrs hwh hll hrl e1 e2 e3 hr0
      go_wp2_with fail
      refine HC.out.mono ?_
      rintro e w1 ⟨rfl, hc1⟩
      have HC1 := Lib.hid (HCR.out.then hc1)
      have HL1 := Lib.hid (HL.out.same hc1)
      clear hc1
      go_wp2_with fail
      refine (HITEM.out ln (by omega) w1 HC1.out).mono ?_
      rintro e w2 ⟨⟨m, t, k, v, b, rfl, hit⟩, hc2⟩
      have HIT := Lib.hid hit
      have HC2 := Lib.hid (HC1.out.then hc2)
      have HL2 := Lib.hid (HL1.out.same hc2)
      clear hit hc2
      by_cases hgood : b = true ∧ wh = true
      · obtain ⟨rfl, rfl⟩ := hgood
        have hit := HIT.out
        cases hi : itemL ln.data.toList with
        | none => rw [hi] at hit; exact absurd (show true = false from hit) (by decide)
        | some x =>
          rw [hi] at hit
          obtain ⟨_, rfl, rfl, rfl, rfl⟩ := hit
          have hpf := HPF.out
          rw [hi] at hpf
          simp only at hpf
          have hpf2 : parseF (rs.data.toList.length + 1) rs.data.toList (l ++ [x]) = P := by
            rw [← hpf]
            exact parseF_more _ _ _ _ (by omega) (by have := HE2.out; omega)
          obtain ⟨w3, hw3⟩ : ∃ w3, w3 = (w2.alloc (.cells #[.bool x.mark, .int .i64 x.time, .int .u8 (x.kind.toNat : Int), .int .i64 x.val] 56)).alloc (.cells #[.bool x.mark, .int .i64 x.time, .int .u8 (x.kind.toNat : Int), .int .i64 x.val] 56) := ⟨_, rfl⟩
          have hc3 : Chg (fun _ => False) w2 w3 := by rw [hw3]; ((repeat (first | exact Chg.refl _ _ | assumption | refine Chg.drewN ?_ _ | refine Chg.drew ?_ | refine Chg.alloc ?_ _ | refine Chg.setCell ?_ (by first | (simp; done) | (simp; omega) | (intro h; simp at h; omega)) _)))
          have hbk : Blk w3 (w2.heap.size + 1) 56 (itemC.g x).toArray := by rw [hw3]; exact Blk.new1 _ _ _ _
          have HW3 := Lib.hid hw3
          have HC3 := Lib.hid hc3
          have HBK := Lib.hid hbk
          have HPF2 := Lib.hid hpf2
          have HL3 := Lib.hid (HL2.out.same hc3)
          clear hi hpf hpf2 hw3 hc3 hbk HIT HITEM HCUT HC HPF
          go_wp2_with (at_builtin; rw [← HW3.out]; refine wpList_lst_app itemOk _ (by rfl) _ _ (by rfl) l (.slice la l.length lc) x (by rfl) HL3.out (w2.heap.size + 1) (by rfl) (by omega) HBK.out ?_)
          intro v' w4 hO hc4 hk4
          obtain ⟨xa, xc, ex, _⟩ := item_form hO
          subst ex
          have hcw : Chg (fun _ => False) w w4 := (HC2.out.then HC3.out).trans hc4 fun j hj e => by
            have := HOWN.out j e
            omega
          have hown2 : ∀ j, (Value.slice xa (l ++ [x]).length xc).ownBlock = some j → w.heap.size ≤ j := fun j e => by
            rcases hk4 j e with h | h
            · exact HOWN.out j h
            · have := (HC2.out.then HC3.out).size; omega
          have HO := Lib.hid hO
          have HCW := Lib.hid hcw
          have HOW2 := Lib.hid hown2
          clear hO hc4 hk4 hcw hown2
          go_wp2_with fail
          exact ⟨⟨rs, l ++ [x], rfl, HO.out, HOW2.out, by simp; omega, HPF2.out, HCW.out⟩, by simp; omega⟩
      · have hP2 : P = .inr l.length := by
          have hpf := HPF.out
          have hit := HIT.out
          rw [← hpf]
          cases hi : itemL ln.data.toList with
          | none => rfl
          | some x =>
            rw [hi] at hit
            cases wh with
            | false => rfl
            | true => exact absurd ⟨hit.1, rfl⟩ hgood
        have HP2 := Lib.hid hP2
        clear hP2 HIT HPF
        have ways : b = false ∨ (b = true ∧ wh = false) := by
          cases b
          · exact .inl rfl
          · cases wh
            · exact .inr ⟨rfl, rfl⟩
            · exact absurd ⟨rfl, rfl⟩ hgood
        clear hgood
        rcases ways with rfl | ⟨rfl, rfl⟩
        all_goals
          go_wp2_with fail
          exact bodyPost_ret (v := .tuple #[.slice none 0 0, .int .i64 (l.length : Int), .int .i64 4]) (by simp [results, Tryz.results21, go_sem]) rfl ⟨.inr ⟨l.length, HP.out.trans HP2.out, rfl⟩, by have := HC2.out; ((repeat (first | exact Chg.refl _ _ | assumption | refine Chg.drewN ?_ _ | refine Chg.drew ?_ | refine Chg.alloc ?_ _ | refine Chg.setCell ?_ (by first | (simp; done) | (simp; omega) | (intro h; simp at h; omega)) _)))⟩
end Go.Proofs.YtjloddlkleileaaGreatDoor
