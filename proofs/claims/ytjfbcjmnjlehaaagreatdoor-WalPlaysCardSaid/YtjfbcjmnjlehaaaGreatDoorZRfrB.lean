/-
  The document's frame: Get.
-/
import Derived.Test.YtjfbcjmnjlehaaaGreatDoorZMg22
namespace Go.Proofs.YtjfbcjmnjlehaaaGreatDoor
open Go.RowKit
set_option linter.unusedVariables false
set_option linter.unusedSimpArgs false

theorem at8_drop (s : ByteArray) (k i : Nat) (h : k + i < s.size) : at8 (s.data.toList.drop k) i = s[k + i].toNat := by
  have h' : k + i < s.data.toList.length := by rw [Array.length_toList]; exact h
  unfold at8
  rw [List.getD_eq_getElem?_getD, List.getElem?_drop, List.getElem?_eq_getElem h']
  simp
  rfl
theorem idx_at (s : ByteArray) (k i a : Nat) (h : k + i < s.size) (ha : at8 (s.data.toList.drop k) i = a) (w : World) : (Instr.index 9 (.string s) (.int .i64 ((k : Int) + (i : Int)))).run Tryz.prog w = .ok (.int .u8 (a : Int)) w := by
  have := run_at s (k + i) h w
  rw [← at8_drop s k i h, ha] at this
  exact this
theorem idx_at0 (s : ByteArray) (k a : Nat) (h : k < s.size) (ha : at8 (s.data.toList.drop k) 0 = a) (w : World) : (Instr.index 9 (.string s) (.int .i64 (k : Int))).run Tryz.prog w = .ok (.int .u8 (a : Int)) w := by
  have := idx_at s k 0 a h ha w
  simpa using this
def GetEnd (w : World) (r body : ByteArray) (c k N : Nat) (e : Ending) (w' : World) : Prop :=
  ((be4 r.data.toList = c ∧ e = .returned (.tuple #[.string body, .int .i64 ((k : Int) + 8 + (N : Int)), .int .i64 0])) ∨ (be4 r.data.toList ≠ c ∧ e = .returned (.tuple #[.string ⟨#[]⟩, .int .i64 0, .int .i64 6]))) ∧ Chg (fun _ => False) w w'
set_option maxRecDepth 100000 in
set_option maxHeartbeats 4000000 in
theorem rf_get (s : ByteArray) (k : Nat) (w : World) (hs : s.size ≤ 1000000000) (hk : k ≤ s.size) : Calls Tryz.prog 105 #[.string s, .int .i64 (k : Int)] w (GetPost w s k) := by
  obtain ⟨m, hm⟩ : ∃ m, s.size - k = m := ⟨_, rfl⟩
  have hll : (s.data.toList.drop k).length = m := by rw [List.length_drop, Array.length_toList]; exact hm
  have el : (s.size : Int) - (k : Int) = (m : Int) := by omega
  have no : ∀ n, n ≠ 0 → getF (s.data.toList.drop k) = n → Calls Tryz.prog 105 #[.string s, .int .i64 (k : Int)] w (GetNo w n) → Calls Tryz.prog 105 #[.string s, .int .i64 (k : Int)] w (GetPost w s k) := fun n hn0 hg h => h.mono fun e w' h => .inr (by rw [hg]; exact ⟨hn0, h⟩)
  have NO := Lib.hid no
  clear no
  by_cases h0 : m = 0
  · refine NO.out 10 (by omega) (by unfold getF; rw [hll, if_pos h0]) ?_
    have hq : ((m : Int) == 0) = true := by rw [h0]; rfl
    clear hll h0
    go_enter Tryz.func105, Tryz.ntmps105
    go_wp2_with fail
    exact bodyPost_ret (v := .tuple #[.string ⟨#[]⟩, .int .i64 0, .int .i64 10]) (by simp [results, Tryz.results105, go_sem]) rfl ⟨rfl, Chg.refl _ _⟩
  have hq0 : ((m : Int) == 0) = false := by rw [beq_eq_false_iff_ne]; omega
  by_cases h4 : m < 4
  · refine NO.out 3 (by omega) (by unfold getF; rw [hll, if_neg h0, if_pos h4]) ?_
    have hq1 : decide ((m : Int) < 4) = true := by simp; omega
    clear hll h0
    go_enter Tryz.func105, Tryz.ntmps105
    go_wp2_with fail
    exact bodyPost_ret (v := .tuple #[.string ⟨#[]⟩, .int .i64 0, .int .i64 3]) (by simp [results, Tryz.results105, go_sem]) rfl ⟨rfl, Chg.refl _ _⟩
  have hq1 : decide ((m : Int) < 4) = false := by simp; omega
  obtain ⟨a0, ha0⟩ : ∃ a, at8 (s.data.toList.drop k) 0 = a := ⟨_, rfl⟩
  obtain ⟨a1, ha1⟩ : ∃ a, at8 (s.data.toList.drop k) 1 = a := ⟨_, rfl⟩
  obtain ⟨a2, ha2⟩ : ∃ a, at8 (s.data.toList.drop k) 2 = a := ⟨_, rfl⟩
  obtain ⟨a3, ha3⟩ : ∃ a, at8 (s.data.toList.drop k) 3 = a := ⟨_, rfl⟩
  have b0 := at8_lt (s.data.toList.drop k) 0
  have b1 := at8_lt (s.data.toList.drop k) 1
  have b2 := at8_lt (s.data.toList.drop k) 2
  have b3 := at8_lt (s.data.toList.drop k) 3
  rw [ha0] at b0
  rw [ha1] at b1
  rw [ha2] at b2
  rw [ha3] at b3
  have i0 := fun w => idx_at0 s k a0 (by omega) ha0 w
  have i1 : ∀ w, (Instr.index 9 (.string s) (.int .i64 ((k : Int) + 1))).run Tryz.prog w = .ok (.int .u8 (a1 : Int)) w := fun w => idx_at s k 1 a1 (by omega) ha1 w
  have i2 : ∀ w, (Instr.index 9 (.string s) (.int .i64 ((k : Int) + 2))).run Tryz.prog w = .ok (.int .u8 (a2 : Int)) w := fun w => idx_at s k 2 a2 (by omega) ha2 w
  have i3 : ∀ w, (Instr.index 9 (.string s) (.int .i64 ((k : Int) + 3))).run Tryz.prog w = .ok (.int .u8 (a3 : Int)) w := fun w => idx_at s k 3 a3 (by omega) ha3 w
  by_cases hA : a0 + a2 = 255
  rotate_left
  · refine NO.out 4 (by omega) (by unfold getF; rw [hll, if_neg h0, if_neg h4, ha0, ha1, ha2, ha3, if_pos (fun h => hA h.1)]) ?_
    have q0 : ((((a0 : Int) + (a2 : Int)) % 256) == 255) = false := by rw [beq_eq_false_iff_ne]; omega
    have q1 : ((((a0 : Int) + (a2 : Int)) % 256) != 255) = true := by simp [bne, q0]
    clear hll h0 hA ha0 ha1 ha2 ha3
    go_enter Tryz.func105, Tryz.ntmps105
    go_wp2_with fail
    go_quiet (fail)
    go_wp2_with fail
    exact bodyPost_ret (v := .tuple #[.string ⟨#[]⟩, .int .i64 0, .int .i64 4]) (by simp [results, Tryz.results105, go_sem]) rfl ⟨rfl, by ((repeat (first | exact Chg.refl _ _ | assumption | refine Chg.drewN ?_ _ | refine Chg.drew ?_ | refine Chg.alloc ?_ _ | refine Chg.setCell ?_ (by first | (simp; done) | (simp; omega) | (intro h; simp at h; omega)) _)))⟩
  have q0 : ((((a0 : Int) + (a2 : Int)) % 256) == 255) = true := by rw [beq_iff_eq]; omega
  have q1 : ((((a0 : Int) + (a2 : Int)) % 256) != 255) = false := by simp [bne, q0]
  by_cases hB : a1 + a3 = 255
  rotate_left
  · refine NO.out 4 (by omega) (by unfold getF; rw [hll, if_neg h0, if_neg h4, ha0, ha1, ha2, ha3, if_pos (fun h => hB h.2)]) ?_
    have q2 : ((((a1 : Int) + (a3 : Int)) % 256) == 255) = false := by rw [beq_eq_false_iff_ne]; omega
    have q3 : ((((a1 : Int) + (a3 : Int)) % 256) != 255) = true := by simp [bne, q2]
    clear hll h0 hA hB ha0 ha1 ha2 ha3
    go_enter Tryz.func105, Tryz.ntmps105
    go_wp2_with fail
    go_quiet (fail)
    go_wp2_with fail
    exact bodyPost_ret (v := .tuple #[.string ⟨#[]⟩, .int .i64 0, .int .i64 4]) (by simp [results, Tryz.results105, go_sem]) rfl ⟨rfl, by ((repeat (first | exact Chg.refl _ _ | assumption | refine Chg.drewN ?_ _ | refine Chg.drew ?_ | refine Chg.alloc ?_ _ | refine Chg.setCell ?_ (by first | (simp; done) | (simp; omega) | (intro h; simp at h; omega)) _)))⟩
  have q2 : ((((a1 : Int) + (a3 : Int)) % 256) == 255) = true := by rw [beq_iff_eq]; omega
  have q3 : ((((a1 : Int) + (a3 : Int)) % 256) != 255) = false := by simp [bne, q2]
  obtain ⟨N, hN⟩ : ∃ N, a0 * 256 + a1 = N := ⟨_, rfl⟩
  have hNb : N ≤ 65535 := by omega
  have eN : 256 * (a0 : Int) + (a1 : Int) = (N : Int) := by omega
  have hfn : fraN (s.data.toList.drop k) = N := by unfold fraN; rw [ha0, ha1]; exact hN
  have hbit : ¬ ¬ (at8 (s.data.toList.drop k) 0 + at8 (s.data.toList.drop k) 2 = 255 ∧ at8 (s.data.toList.drop k) 1 + at8 (s.data.toList.drop k) 3 = 255) := by rw [ha0, ha1, ha2, ha3]; exact fun h => h ⟨hA, hB⟩
  by_cases h8 : m < 8 + N
  · refine NO.out 3 (by omega) (by unfold getF; rw [hll, if_neg h0, if_neg h4, if_neg hbit, hfn, if_pos h8]) ?_
    have q4 : decide ((m : Int) < 8 + (N : Int)) = true := by simp; omega
    clear hll h0 hA hB ha0 ha1 ha2 ha3 hfn hbit hN
    go_enter Tryz.func105, Tryz.ntmps105
    go_wp2_with fail
    go_quiet (fail)
    go_wp2_with fail
    go_quiet (fail)
    go_wp2_with fail
    exact bodyPost_ret (v := .tuple #[.string ⟨#[]⟩, .int .i64 0, .int .i64 3]) (by simp [results, Tryz.results105, go_sem]) rfl ⟨rfl, by ((repeat (first | exact Chg.refl _ _ | assumption | refine Chg.drewN ?_ _ | refine Chg.drew ?_ | refine Chg.alloc ?_ _ | refine Chg.setCell ?_ (by first | (simp; done) | (simp; omega) | (intro h; simp at h; omega)) _)))⟩
  have q4 : decide ((m : Int) < 8 + (N : Int)) = false := by simp; omega
  obtain ⟨r, hr⟩ : ∃ r, s.extract k s.size = r := ⟨_, rfl⟩
  have hrl : s.data.toList.drop k = r.data.toList := by rw [← hr, rest_list]
  obtain ⟨body, hb⟩ : ∃ b, s.extract (k + 8) (k + 8 + N) = b := ⟨_, rfl⟩
  have hbl : body.data.toList = fraBody (s.data.toList.drop k) := by
    rw [← hb]
    unfold fraBody
    rw [hfn, ByteArray.data_extract, Array.toList_extract, List.drop_drop]
    simp only [List.extract]
    congr 1
    omega
  have hbs : body.size ≤ 1000000000 := by rw [← hb]; simp; omega
  have hsl : ∀ w, (Instr.slice 9 (.string s) (some (.int .i64 ((k : Int) + 8))) (some (.int .i64 ((k : Int) + 8 + (N : Int)))) none).run Tryz.prog w = .ok (.string body) w := fun w => by
    have := run_cut s (k + 8) (k + 8 + N) (by omega) (by omega) w
    rw [hb] at this
    simpa using this
  have hsm := fun w => rf_sum body w hbs
  obtain ⟨c', hc'⟩ : ∃ c', crcSum body.data.toList = c' := ⟨_, rfl⟩
  rw [hc'] at hsm
  have hgf : getF (s.data.toList.drop k) = if be4 r.data.toList ≠ c' then 6 else 0 := by
    rw [← hrl, ← hc', hbl]
    unfold getF
    rw [hll, if_neg h0, if_neg h4, if_neg hbit, hfn, if_neg h8]
  have hrr : ∀ i, k + i < s.size → at8 r.data.toList i = at8 (s.data.toList.drop k) i := fun i _ => by rw [hrl]
  have main : Calls Tryz.prog 105 #[.string s, .int .i64 (k : Int)] w (GetEnd w r body c' k N) := by
    have HSM := Lib.hid hsm
    have HRR := Lib.hid hrr
    have h8' : (k : Int) + 8 + (N : Int) ≤ (s.size : Int) := by omega
    clear hll h0 hA hB ha0 ha1 ha2 ha3 hfn hbit hN NO hsm hrl hr hb hbl hgf hc' hrr
    go_enter Tryz.func105, Tryz.ntmps105
    go_wp2_with fail
    go_quiet (fail)
    go_wp2_with fail
    go_quiet (fail)
    go_wp2_with fail
    go_loop [10, 11] (fun c i => ∃ m : Nat, m ≤ 4 ∧ i = .int .i64 ((4 + m : Nat) : Int) ∧ c = .int .u32 (beP r m : Nat)) (fun _ i => 8 - (intOf i).toNat)
    case atStart => exact ⟨0, by omega, rfl, rfl⟩
    case round =>
      obtain ⟨j, hj, rfl, rfl⟩ := hrel
      have hlt := beP_lt r j
      by_cases hj4 : j < 4
      · have hp : 256 ^ j ≤ 16777216 := by
          have : 256 ^ j ≤ 256 ^ 3 := Nat.pow_le_pow_right (by omega) (by omega)
          exact this
        have hsucc : beP r (j + 1) = beP r j * 256 + at8 r.data.toList (4 + j) := rfl
        obtain ⟨c, hc⟩ : ∃ c, beP r j = c := ⟨_, rfl⟩
        rw [hc] at hlt hsucc ⊢
        have hcl : c < 16777216 := by omega
        obtain ⟨d, hd⟩ : ∃ d, at8 r.data.toList (4 + j) = d := ⟨_, rfl⟩
        have hdl := at8_lt r.data.toList (4 + j)
        rw [hd] at hsucc hdl
        rw [HRR.out (4 + j) (by omega)] at hd
        obtain ⟨i, hi⟩ : ∃ i, 4 + j = i := ⟨_, rfl⟩
        rw [hi] at hd ⊢
        have him : ∀ w, (Instr.index 9 (.string s) (.int .i64 ((k : Int) + (i : Int)))).run Tryz.prog w = .ok (.int .u8 (d : Int)) w := fun w => idx_at s k i d (by omega) hd w
        have hi8 : (i : Int) < 8 := by omega
        have HS := Lib.hid hsucc
        have HI := Lib.hid hi
        clear hc hsucc hd hp hlt i0 i1 i2 i3 q0 q1 q2 q3 hsl hi
        go_wp2_with fail
        refine ⟨⟨j + 1, by omega, by rw [← HI.out]; simp; omega, by rw [HS.out]; simp⟩, by have := HI.out; simp [intOf]; omega⟩
      · obtain rfl : j = 4 := by omega
        have hbe := beP_four r
        obtain ⟨c, hc⟩ : ∃ c, beP r 4 = c := ⟨_, rfl⟩
        rw [hc] at hbe ⊢
        have HBE := Lib.hid hbe
        clear hlt i0 i1 i2 i3 q0 q1 q2 q3 hsl hc hbe
        go_wp2_with fail
        refine (HSM.out _).mono ?_
        rintro e w' ⟨rfl, rfl⟩
        by_cases hcc : c = c'
        · have hq1 : ((c' : Int) != (c : Int)) = false := by simp [bne, hcc]
          have hq2 : ((c' : Int) == (c : Int)) = true := by rw [hcc]; simp
          have HCC := Lib.hid hcc
          clear hcc
          go_wp2_with fail
          exact bodyPost_ret (v := .tuple #[.string body, .int .i64 ((k : Int) + 8 + (N : Int)), .int .i64 0]) (by simp [results, Tryz.results105, go_sem]) rfl ⟨.inl ⟨HBE.out.symm.trans HCC.out, rfl⟩, by ((repeat (first | exact Chg.refl _ _ | assumption | refine Chg.drewN ?_ _ | refine Chg.drew ?_ | refine Chg.alloc ?_ _ | refine Chg.setCell ?_ (by first | (simp; done) | (simp; omega) | (intro h; simp at h; omega)) _)))⟩
        · have hq2 : ((c' : Int) == (c : Int)) = false := by rw [beq_eq_false_iff_ne]; omega
          have hq1 : ((c' : Int) != (c : Int)) = true := by simp [bne, hq2]
          have HCC := Lib.hid hcc
          clear hcc
          go_wp2_with fail
          exact bodyPost_ret (v := .tuple #[.string ⟨#[]⟩, .int .i64 0, .int .i64 6]) (by simp [results, Tryz.results105, go_sem]) rfl ⟨.inr ⟨fun h => HCC.out (HBE.out.trans h), rfl⟩, by ((repeat (first | exact Chg.refl _ _ | assumption | refine Chg.drewN ?_ _ | refine Chg.drew ?_ | refine Chg.alloc ?_ _ | refine Chg.setCell ?_ (by first | (simp; done) | (simp; omega) | (intro h; simp at h; omega)) _)))⟩
  refine main.mono fun e w' ⟨he, hc⟩ => ?_
  unfold GetPost
  rcases he with ⟨hcc, he⟩ | ⟨hcc, he⟩
  · rw [if_neg (fun h => h hcc)] at hgf
    refine .inl ⟨body, hgf, hbl, ?_, hc⟩
    rw [he, hfn, show (k : Int) + 8 + (N : Int) = ((k + (8 + N) : Nat) : Int) by omega]
  · rw [if_pos hcc] at hgf
    rw [hgf]
    exact .inr ⟨by omega, he, hc⟩
end Go.Proofs.YtjfbcjmnjlehaaaGreatDoor
