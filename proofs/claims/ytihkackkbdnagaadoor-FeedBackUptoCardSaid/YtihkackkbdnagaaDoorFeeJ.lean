/-
  The document's items of a text.
-/
import Derived.Test.YtihkackkbdnagaaDoorFeeI
import Derived.Test.YtihkackkbdnagaaDoorFeeD
namespace Go.Proofs.YtihkackkbdnagaaDoor
open Go.RowKit Go.Shelf
set_option linter.unusedVariables false
set_option linter.unusedSimpArgs false

def docC2 : Codec ItemV := ⟨itemG, 4, 36, 24, .agg #[.bool false, .int .i64 0, .int .u8 0, .int .i64 0], 32⟩
theorem docOk2 : docC2.Ok := ⟨fun _ => rfl, by decide, fun x v hv => by simp [docC2, itemG] at hv; rcases hv with rfl | rfl | rfl | rfl <;> rfl, Tryd.underlying24, by kernel_rfl, rfl, by decide⟩
theorem doc2_form {w : World} {v : Value} {l : List ItemV} (h : Lst docC2 w v l) : ∃ a cap, v = .slice a l.length cap ∧ l.length ≤ cap ∧ l.length ≤ 9223372036854775807 := by
  obtain ⟨a, cap, e, h1, h2, _⟩ := h.form docOk2
  exact ⟨a, cap, e, h1, h2⟩
def ParseAt2 (w' : World) (s : List UInt8) (e : Ending) : Prop := (∃ v l, parseV s = .inl l ∧ e = .returned (.tuple #[v, .int .i64 0, .int .i64 0]) ∧ Lst docC2 w' v l) ∨ (∃ k : Nat, parseV s = .inr k ∧ e = .returned (.tuple #[.slice none 0 0, .int .i64 (k : Int), .int .i64 4]))
set_option maxRecDepth 100000 in
set_option maxHeartbeats 4000000 in
theorem r3_parse (s : ByteArray) (hs : s.size ≤ 1000000000) (w : World) : Calls Tryd.prog 7 #[.string s] w fun e w' => ParseAt2 w' s.data.toList e ∧ Chg (fun _ => False) w w' := by
  have hitem := fun (r : ByteArray) (hr : r.size ≤ 4294967280) W => r3_item r hr W
  have e4 : s.data.toList.length = s.size := by rw [Array.length_toList]; rfl
  have HITEM := Lib.hid hitem
  have HE4 := Lib.hid e4
  clear hitem e4
  obtain ⟨P, hP⟩ : ∃ P, parseV s.data.toList = P := ⟨_, rfl⟩
  have HP := Lib.hid hP
  clear hP
  go_enter Tryd.func7, Tryd.ntmps7
  go_wp2_with fail
  go_loopw [5, 6] (fun v u wr => ∃ (k : Nat) (l : List ItemV), u = .int .i64 (k : Int) ∧ k ≤ s.size ∧ Lst docC2 wr v l ∧ (∀ j, v.ownBlock = some j → w.heap.size ≤ j) ∧ l.length ≤ k ∧ parseF ((s.data.toList.drop k).length + 1) (s.data.toList.drop k) l = P ∧ Chg (fun _ => False) w wr) (fun _ u _ => s.size + 1 - (intOf u).toNat)
  case atStart => exact ⟨0, [], rfl, by omega, Lst.nil _ _, by simp [Value.ownBlock], by simp, by rw [List.drop_zero]; exact HP.out, Chg.refl _ _⟩
  case round =>
    obtain ⟨k, l, rfl, hk, hL, hown, hls, hpf, hcr⟩ := hrel
    obtain ⟨la, lc, rfl, h1, h2⟩ := doc2_form hL
    have HL := Lib.hid hL
    have HOWN := Lib.hid hown
    have HCR := Lib.hid hcr
    obtain ⟨wq, rfl⟩ : ∃ wq : World, wq = wr := ⟨_, rfl⟩
    clear hL hown hcr
    rcases Nat.lt_or_ge k s.size with hks | hks
    · have hd0 : (k : Int) < (s.size : Int) := by omega
      obtain ⟨R, hR⟩ : ∃ R, s.data.toList.drop k = R := ⟨_, rfl⟩
      have hRl : R.length + k = s.size := by rw [← hR, List.length_drop, HE4.out]; omega
      rw [hR] at hpf
      have hR0 : R ≠ [] := fun e => by rw [e] at hRl; simp at hRl; omega
      have hat : ∀ (m : Nat) (x : UInt8), R[m]? = some x → ∀ w, (Instr.index 9 (.string s) (.int .i64 ((k : Int) + m))).run Tryd.prog w = .ok (.int .u8 (x.toNat : Int)) w := fun m x hx w => by
        have := run_atL s (k + m) x (by rw [← List.getElem?_drop, hR]; exact hx) w
        rw [Int.natCast_add] at this
        exact this
      have HAT := Lib.hid hat
      have HR := Lib.hid hR
      have HPF := Lib.hid hpf
      clear hat hpf
      go_wp2_with fail
      go_loopw [7] (fun t wr => ∃ m : Nat, m ≤ R.length ∧ t = .int .i64 ((k : Int) + m) ∧ (10 : UInt8) ∉ R.take m ∧ wq = wr) (fun t _ => s.size + 1 - (intOf t).toNat)
      case atStart => exact ⟨0, by omega, by simp, by simp, rfl⟩
      case round =>
        obtain ⟨m, hm, rfl, hno, rfl⟩ := hrel
        rcases Nat.lt_or_ge m R.length with hml | hml
        · have hi2 : (k : Int) + m < (s.size : Int) := by omega
          obtain ⟨x, hx⟩ : ∃ x, R[m]? = some x := ⟨R[m], by simp [hml]⟩
          have hix := HAT.out m x hx
          by_cases hx10 : x = 10
          · have hq : ((x.toNat : Int) != 10) = false := by rw [hx10]; rfl
            obtain ⟨A, B, hRA, hAm⟩ : ∃ A B, R = A ++ 10 :: B ∧ A.length = m := by
              refine ⟨R.take m, R.drop (m + 1), ?_, by simp; omega⟩
              have hd := List.drop_eq_getElem_cons hml
              have hx2 : R[m] = x := by
                have := List.getElem?_eq_getElem hml
                rw [hx] at this
                injection this with this
                exact this.symm
              rw [hx2, hx10] at hd
              rw [← hd, List.take_append_drop]
            have htake : R.take m = A := by rw [hRA, ← hAm, List.take_left]
            rw [htake] at hno
            have hcut := cut_hit 10 A B hno
            have hpf := HPF.out
            have hlen : R.length = m + (B.length + 1) := by rw [hRA, List.length_append, hAm, List.length_cons]
            rw [parseF_step _ _ _ hR0, hRA, hcut] at hpf
            simp only at hpf
            obtain ⟨T, hT⟩ : ∃ T, s.extract k (k + m) = T := ⟨_, rfl⟩
            have hTl : T.data.toList = A := by
              rw [← hT, ext_data, List.drop_take, HR.out, Nat.add_sub_cancel_left, htake]
            have hTs : T.size ≤ 4294967280 := by rw [← hT]; simp; omega
            have hsl := run_slice_string (P := Tryd.prog) wq 9 s .i64 .i64 (k : Int) ((k : Int) + m) Tryd.underlying9 (by omega) (by omega) (by omega)
            rw [show ((k : Int) + m).toNat = k + m by omega, show (k : Int).toNat = k by omega, hT] at hsl
            have hdropB : s.data.toList.drop (k + m + 1) = B := by
              have : s.data.toList.drop (k + m + 1) = (s.data.toList.drop k).drop (m + 1) := by rw [List.drop_drop, Nat.add_assoc]
              rw [this, HR.out, hRA, ← hAm]
              simp
            have hi := HITEM.out T hTs wq
            have HI := Lib.hid hi
            have HPF2 := Lib.hid hpf
            have HTL := Lib.hid hTl
            have HDB := Lib.hid hdropB
            have heq : ((k : Int) + m == (s.size : Int)) = false := by rw [beq_eq_false_iff_ne]; omega
            clear hi hpf hTl hdropB hcut hT hRA hAm htake hno hx hx10
            go_wp2_with fail
            refine HI.out.mono ?_
            rintro e w2 ⟨⟨mm, tt, kk, vv, b, rfl, hit⟩, hc2⟩
            rw [HTL.out] at hit
            have HIT := Lib.hid hit
            have HC2 := Lib.hid (HCR.out.then hc2)
            have HL2 := Lib.hid (HL.out.same hc2)
            clear hit hc2 hsl
            cases b with
            | true =>
              have hit := HIT.out
              cases hi : itemL A with
              | none => rw [hi] at hit; exact absurd (show true = false from hit) (by decide)
              | some x =>
                rw [hi] at hit
                obtain ⟨_, rfl, rfl, rfl, rfl⟩ := hit
                have hpf := HPF2.out
                rw [hi] at hpf
                simp only at hpf
                have hpf2 : parseF (B.length + 1) B (l ++ [x]) = P := by
                  rw [← hpf]
                  exact parseF_more _ _ _ _ (by omega) (by rw [List.length_append, List.length_cons]; omega)
                obtain ⟨w3, hw3⟩ : ∃ w3, w3 = (w2.alloc (.cells #[.bool x.mark, .int .i64 x.time, .int .u8 (x.kind.toNat : Int), .int .i64 x.val] 36)).alloc (.cells #[.bool x.mark, .int .i64 x.time, .int .u8 (x.kind.toNat : Int), .int .i64 x.val] 36) := ⟨_, rfl⟩
                have hc3 : Chg (fun _ => False) w2 w3 := by rw [hw3]; ((repeat (first | exact Chg.refl _ _ | assumption | refine Chg.drewN ?_ _ | refine Chg.drew ?_ | refine Chg.alloc ?_ _ | refine Chg.setCell ?_ (by first | (simp; done) | (simp; omega) | (intro h; simp at h; omega)) _)))
                have hbk : Blk w3 (w2.heap.size + 1) 36 (docC2.g x).toArray := by rw [hw3]; exact Blk.new1 _ _ _ _
                have HW3 := Lib.hid hw3
                have HC3 := Lib.hid hc3
                have HBK := Lib.hid hbk
                have HPF3 := Lib.hid hpf2
                have HL3 := Lib.hid (HL2.out.same hc3)
                clear hi hpf hpf2 hw3 hc3 hbk HIT HITEM HPF HPF2
                go_wp2_with (at_builtin; rw [← HW3.out]; refine wpList_lst_app docOk2 _ (by rfl) _ _ (by rfl) l (.slice la l.length lc) x (by rfl) HL3.out (w2.heap.size + 1) (by rfl) (by omega) HBK.out ?_)
                intro v' w4 hO hc4 hk4
                obtain ⟨xa, xc, ex, _⟩ := doc2_form hO
                subst ex
                have hcw : Chg (fun _ => False) w w4 := (HC2.out.then HC3.out).trans hc4 fun j hj e => by
                  have := HOWN.out j e
                  omega
                have hown2 : ∀ j, (Value.slice xa (l ++ [x]).length xc).ownBlock = some j → w.heap.size ≤ j := fun j e => by
                  rcases hk4 j e with h | h
                  · exact HOWN.out j h
                  · have := (HC2.out.then HC3.out).size; omega
                have HO := Lib.hid hO
                have HCW := Lib.hid hcw
                have HOW2 := Lib.hid hown2
                clear hO hc4 hk4 hcw hown2
                go_wp2_with fail
                go_roundw
                case rel => exact ⟨k + m + 1, l ++ [x], by go_num, by omega, HO.out, HOW2.out, by rw [List.length_append]; simp; omega, by rw [HDB.out]; exact HPF3.out, HCW.out⟩
                case measure => simp [intOf]; omega
            | false =>
              have hP2 : P = .inr l.length := by
                have hpf := HPF2.out
                have hit := HIT.out
                rw [← hpf]
                cases hi : itemL A with
                | none => rfl
                | some x =>
                  rw [hi] at hit
                  exact absurd hit.1 (by decide)
              have HP2 := Lib.hid hP2
              clear hP2 HIT HPF HPF2
              go_wp2_with fail
              exact bodyPost_ret (v := .tuple #[.slice none 0 0, .int .i64 (l.length : Int), .int .i64 4]) (by simp [results, Tryd.results7, go_sem]) rfl ⟨.inr ⟨l.length, HP.out.trans HP2.out, rfl⟩, by have := HC2.out; ((repeat (first | exact Chg.refl _ _ | assumption | refine Chg.drewN ?_ _ | refine Chg.drew ?_ | refine Chg.alloc ?_ _ | refine Chg.setCell ?_ (by first | (simp; done) | (simp; omega) | (intro h; simp at h; omega)) _)))⟩
          · have hq : ((x.toNat : Int) != 10) = true := by
              simp only [bne_iff_ne, ne_eq]
              intro h
              exact hx10 (UInt8.toNat_inj.1 (by have : (10 : UInt8).toNat = 10 := rfl; omega))
            have hno2 : (10 : UInt8) ∉ R.take (m + 1) := by
              rw [List.take_add_one, hx]
              simp only [Option.toList, List.mem_append, List.mem_singleton, not_or]
              exact ⟨hno, fun h => hx10 h.symm⟩
            have HNO := Lib.hid hno2
            clear hno hno2 hx
            go_wp2_with fail
            go_roundw
            case rel => exact ⟨m + 1, by omega, by go_num, HNO.out, by first | rfl | trivial⟩
            case measure => simp [intOf]; omega
        · have hi2 : ¬ (k : Int) + m < (s.size : Int) := by omega
          obtain rfl : m = R.length := by omega
          rw [List.take_length] at hno
          have hcut := cut_miss 10 R hno
          have hP2 : P = .inr l.length := by
            have hpf := HPF.out
            rw [parseF_step _ _ _ hR0, hcut] at hpf
            rw [← hpf]
            cases itemL R <;> rfl
          obtain ⟨T, hT⟩ : ∃ T, s.extract k (k + R.length) = T := ⟨_, rfl⟩
          have hTs : T.size ≤ 4294967280 := by rw [← hT]; simp; omega
          have hsl := run_slice_string (P := Tryd.prog) wq 9 s .i64 .i64 (k : Int) ((k : Int) + R.length) Tryd.underlying9 (by omega) (by omega) (by omega)
          rw [show ((k : Int) + R.length).toNat = k + R.length by omega, show (k : Int).toNat = k by omega, hT] at hsl
          have hi := HITEM.out T hTs wq
          have HI := Lib.hid hi
          have HP2 := Lib.hid hP2
          have heq : ((k : Int) + R.length == (s.size : Int)) = true := by rw [beq_iff_eq]; omega
          clear hi hP2 hcut hT hno
          go_wp2_with fail
          refine HI.out.mono ?_
          rintro e w2 ⟨⟨mm, tt, kk, vv, b, rfl, hit⟩, hc2⟩
          have HC2 := Lib.hid (HCR.out.then hc2)
          clear hit hc2 hsl
          cases b
          all_goals
            go_wp2_with fail
            exact bodyPost_ret (v := .tuple #[.slice none 0 0, .int .i64 (l.length : Int), .int .i64 4]) (by simp [results, Tryd.results7, go_sem]) rfl ⟨.inr ⟨l.length, HP.out.trans HP2.out, rfl⟩, by have := HC2.out; ((repeat (first | exact Chg.refl _ _ | assumption | refine Chg.drewN ?_ _ | refine Chg.drew ?_ | refine Chg.alloc ?_ _ | refine Chg.setCell ?_ (by first | (simp; done) | (simp; omega) | (intro h; simp at h; omega)) _)))⟩
    · have hd0 : ¬ (k : Int) < (s.size : Int) := by omega
      have hP2 : P = .inl l := by
        rw [← hpf, List.drop_eq_nil_of_le (by rw [HE4.out]; exact hks)]
        rfl
      have HP2 := Lib.hid hP2
      clear hpf hP2
      go_wp2_with fail
      refine bodyPost_ret (v := .tuple #[.slice la l.length lc, .int .i64 0, .int .i64 0]) (by simp [results, Tryd.results7, go_sem]) rfl ⟨.inl ⟨_, l, HP.out.trans HP2.out, rfl, HL.out⟩, HCR.out⟩
end Go.Proofs.YtihkackkbdnagaaDoor
