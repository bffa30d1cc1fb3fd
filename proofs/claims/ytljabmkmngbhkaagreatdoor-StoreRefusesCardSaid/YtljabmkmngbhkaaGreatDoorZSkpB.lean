/-
  A skip list: which entries are good; the height of the next tower, its cost; a new list.
-/
import Derived.Test.YtljabmkmngbhkaaGreatDoorZMg14
import Derived.RegionTactic
import Derived.Deep.RegionLaw
namespace Go.Proofs.YtljabmkmngbhkaaGreatDoor
open Go.RowKit
set_option linter.unusedVariables false
set_option linter.unusedSimpArgs false

theorem ba_empty (s : ByteArray) : s.toList.isEmpty = decide (s.size = 0) := by
  rw [ByteArray.toList_eq, Bool.eq_iff_iff]
  rw [List.isEmpty_iff, decide_eq_true_iff, ← bs_len]
  exact List.eq_nil_iff_length_eq_zero
set_option maxRecDepth 100000 in
set_option maxHeartbeats 4000000 in
theorem sk_good (e : EntryV) (w : World) : Calls Tryz.prog 159 #[entA e] w fun r w' => r = .returned (.int .i64 (goodK e)) ∧ Chg (fun _ => False) w w' := by
  obtain ⟨k, s, g, v, t⟩ := e
  unfold entA
  simp only
  have hke := ba_empty k
  have hve := ba_empty v
  by_cases h1 : k.size > 64
  · have hr : goodK ⟨k, s, g, v, t⟩ = 5 := if_pos (.inl h1)
    rw [hr]
    have h1' : decide ((64 : Int) < (k.size : Int)) = true := by simp; omega
    clear hr hke hve
    go_enter Tryz.func159, Tryz.ntmps159
    go_wp2
    go_ret
    exact ⟨rfl, cgS⟩
  by_cases h2 : v.size > 512
  · have hr : goodK ⟨k, s, g, v, t⟩ = 5 := if_pos (.inr h2)
    rw [hr]
    have h1' : decide ((64 : Int) < (k.size : Int)) = false := by simp; omega
    have h2' : decide ((512 : Int) < (v.size : Int)) = true := by simp; omega
    clear hr hke hve
    go_enter Tryz.func159, Tryz.ntmps159
    go_wp2
    go_ret
    exact ⟨rfl, cgS⟩
  have h1' : decide ((64 : Int) < (k.size : Int)) = false := by simp; omega
  have h2' : decide ((512 : Int) < (v.size : Int)) = false := by simp; omega
  have hr : goodK ⟨k, s, g, v, t⟩ = if k.size = 0 ∨ s < 1 ∨ t < 0 ∨ (g = true ∧ (v.size ≠ 0 ∨ t ≠ 0)) then 2 else 0 := if_neg (by simp only; omega)
  rw [hr]
  clear hr
  by_cases h3 : k.size = 0
  · rw [if_pos (.inl h3)]
    rw [decide_eq_true h3] at hke
    clear hve h3
    go_enter Tryz.func159, Tryz.ntmps159
    go_wp2
    go_ret
    exact ⟨rfl, cgS⟩
  rw [decide_eq_false h3] at hke
  by_cases h4 : s < 1
  · rw [if_pos (.inr (.inl h4))]
    clear hve h3
    go_enter Tryz.func159, Tryz.ntmps159
    go_wp2
    go_ret
    exact ⟨rfl, cgS⟩
  by_cases h5 : t < 0
  · rw [if_pos (.inr (.inr (.inl h5)))]
    clear hve h3
    go_enter Tryz.func159, Tryz.ntmps159
    go_wp2
    go_ret
    exact ⟨rfl, cgS⟩
  cases g with
  | false =>
    rw [if_neg (fun h => h.elim h3 fun h => h.elim h4 fun h => h.elim h5 fun h => nomatch h.1)]
    clear hve h3
    go_enter Tryz.func159, Tryz.ntmps159
    go_wp2
    go_ret
    exact ⟨rfl, cgS⟩
  | true =>
    by_cases h6 : v.size = 0
    · by_cases h7 : t = 0
      · subst h7
        rw [if_neg (fun h => h.elim h3 fun h => h.elim h4 fun h => h.elim h5 fun h => h.2.elim (fun h => h h6) fun h => h rfl)]
        rw [decide_eq_true h6] at hve
        clear h3 h6
        go_enter Tryz.func159, Tryz.ntmps159
        go_wp2
        go_ret
        exact ⟨rfl, cgS⟩
      · rw [if_pos (.inr (.inr (.inr ⟨rfl, .inr h7⟩)))]
        rw [decide_eq_true h6] at hve
        have h8 : (t == 0) = false := by simp [h7]
        have h9 : (t != 0) = true := by simp [h7]
        clear h3 h6
        go_enter Tryz.func159, Tryz.ntmps159
        go_wp2
        go_ret
        exact ⟨rfl, cgS⟩
    · rw [if_pos (.inr (.inr (.inr ⟨rfl, .inl h6⟩)))]
      rw [decide_eq_false h6] at hve
      clear h3 h6
      go_enter Tryz.func159, Tryz.ntmps159
      go_wp2
      go_ret
      exact ⟨rfl, cgS⟩
/-! ### The next tower -/
theorem coin_eq (c : Int) (h0 : -9223372036854775808 ≤ c) (h1 : c ≤ 9223372036854775807) : 0 ≤ coinV c ∧ coinV c ≤ 9223372036854775807 := by
  unfold coinV
  split <;> omega
set_option maxRecDepth 100000 in
set_option maxHeartbeats 4000000 in
theorem sk_height_g (l : Nat) (cv : Value) (coins : List Int) (N : Nat) (w : World) (hcn : CoinsAt w cv coins) (hN : N ≤ 1000000000) (y0 : w.cell? ⟨l, 0, none⟩ = some cv) (y7 : w.cell? ⟨l, 7, none⟩ = some (.int .i64 (N : Int))) : Calls Tryz.prog 180 #[.pointer (some ⟨l, 0, none⟩)] w fun r w' => r = .returned (.int .i64 (heightV coins N : Int)) ∧ ∃ q, w.drewN q = w' := by
  obtain ⟨a, cap, rfl, h1, h2, h3, h4⟩ := hcn
  obtain ⟨n, hn⟩ : ∃ n, N = n := ⟨_, rfl⟩
  obtain ⟨m, hm⟩ : ∃ m, coins.length = m := ⟨_, rfl⟩
  rw [hn] at hN y7
  rw [hm] at h1 h2 y0
  have hb := World.block_lt_of_cell? w _ y0
  by_cases hz : m = 0
  · subst hz
    have he : heightV coins N = 1 := if_pos hm
    rw [he]
    clear h3 h4 hm he
    go_enter Tryz.func180, Tryz.ntmps180
    go_wp2
    go_ret
    exact ⟨rfl, 0, rfl⟩
  · obtain ⟨b, rfl, hbl, hr⟩ := h4 (by omega)
    have hlt : n % m < m := Nat.mod_lt _ (by omega)
    obtain ⟨c, hc⟩ : ∃ c, coins[n % m]? = some c := ⟨_, List.getElem?_eq_getElem (by omega)⟩
    have x0 := hr _ _ hc
    obtain ⟨c0, c1⟩ := h3 c (List.mem_of_getElem? hc)
    obtain ⟨d0, d1⟩ := coin_eq c c0 c1
    have he : heightV coins N = 1 + (coinV c).toNat % 8 := by
      unfold heightV
      rw [if_neg (by omega), hn, hm, List.getD_eq_getElem?_getD, hc]
      rfl
    rw [he]
    have hq : ((m : Int) == 0) = false := by rw [beq_eq_false_iff_ne]; omega
    have hq1 : ¬ (m : Int) = 0 := by omega
    have hmod : (n : Int).tmod (m : Int) = ((n % m : Nat) : Int) := by rw [Int.tmod_eq_emod_of_nonneg (by omega)]; rfl
    have i0 : (0 : Int) ≤ ((n % m : Nat) : Int) := by omega
    have i1 : ((n % m : Nat) : Int) < (m : Int) := by omega
    obtain ⟨i, hi⟩ : ∃ i, n % m = i := ⟨_, rfl⟩
    rw [hi] at hmod i0 i1 x0 hlt
    have hw : IntKind.i64.wrap (i : Int) = i := IntWalk.i64_in _ (by omega)
    clear h3 h4 hr hc he hn hm hi hz
    have fin : ∀ d : Int, coinV c = d → 0 ≤ d → d ≤ 9223372036854775807 → d.tmod 8 = (((coinV c).toNat % 8 : Nat) : Int) ∧ d % 8 = (((coinV c).toNat % 8 : Nat) : Int) := fun d hd h0 _ => by
      rw [hd, Int.tmod_eq_emod_of_nonneg h0]; omega
    have hr8 : (coinV c).toNat % 8 < 8 := by omega
    by_cases hneg : c < 0
    · have hf := fin (-(c + 1)) (by unfold coinV; rw [if_pos hneg]) (by omega) (by omega)
      generalize (coinV c).toNat % 8 = r at hf hr8 ⊢
      have hrw : wrap64 (1 + (r : Int)) = 1 + (r : Int) := by unfold wrap64; omega
      have HF := Lib.hid hf
      have HRW := Lib.hid hrw
      have HM := Lib.hid hmod
      clear hf hrw hmod
      clear fin d0 d1
      go_enter Tryz.func180, Tryz.ntmps180
      go_wp2_with fail
      have hmod := HM.out
      go_quiet (fail)
      clear hmod hw
      go_wp2_with fail
      obtain ⟨hf, hf2⟩ := HF.out
      have hrw := HRW.out
      go_ret
      exact ⟨by first | rfl | (simp_all; done), _, rfl⟩
    · have hf := fin c (by unfold coinV; rw [if_neg hneg]) (by omega) (by omega)
      generalize (coinV c).toNat % 8 = r at hf hr8 ⊢
      have hrw : wrap64 (1 + (r : Int)) = 1 + (r : Int) := by unfold wrap64; omega
      have HF := Lib.hid hf
      have HRW := Lib.hid hrw
      have HM := Lib.hid hmod
      clear hf hrw hmod
      clear fin d0 d1
      go_enter Tryz.func180, Tryz.ntmps180
      go_wp2_with fail
      have hmod := HM.out
      go_quiet (fail)
      clear hmod hw
      go_wp2_with fail
      obtain ⟨hf, hf2⟩ := HF.out
      have hrw := HRW.out
      go_ret
      exact ⟨by first | rfl | (simp_all; done), _, rfl⟩
theorem sk_height (l hb : Nat) (cv : Value) (coins : List Int) (N : List NodeV) (size : Int) (w : World) (h : SkipAt w l hb cv coins N size) : Calls Tryz.prog 180 #[.pointer (some ⟨l, 0, none⟩)] w fun r w' => r = .returned (.int .i64 (heightV coins N.length : Int)) ∧ ∃ q, w.drewN q = w' :=
  sk_height_g l cv coins N.length w h.coin h.len (h.blk.cell 0) (h.blk.cell 7)
def costE (h : Nat) (e : EntryV) : Int := 40 + 8 * (h : Int) + (e.key.size : Int) + (e.value.size : Int)
set_option maxRecDepth 100000 in
set_option maxHeartbeats 4000000 in
theorem sk_cost (l hb : Nat) (cv : Value) (coins : List Int) (N : List NodeV) (size : Int) (e : EntryV) (he : e.key.size ≤ 64 ∧ e.value.size ≤ 512) (w : World) (h : SkipAt w l hb cv coins N size) : Calls Tryz.prog 179 #[.pointer (some ⟨l, 0, none⟩), entA e] w fun r w' => r = .returned (.int .i64 (costE (heightV coins N.length) e)) ∧ Chg (fun _ => False) w w' := by
  obtain ⟨k, s, g, v, t⟩ := e
  simp only at he
  have hh := fun W (hW : Chg (fun _ => False) w W) => sk_height l hb cv coins N size W (h.same hW)
  obtain ⟨e1, e2⟩ := heightV_le coins N.length
  unfold costE
  generalize heightV coins N.length = n at hh e1 e2 ⊢
  have i1 := IntWalk.i64_in (8 * (n : Int)) (by omega)
  have i2 := IntWalk.i64_in (40 + 8 * (n : Int)) (by omega)
  have i3 := IntWalk.i64_in (40 + 8 * (n : Int) + (k.size : Int)) (by omega)
  have i4 := IntWalk.i64_in (40 + 8 * (n : Int) + (k.size : Int) + (v.size : Int)) (by omega)
  obtain ⟨w1, hw1⟩ : ∃ w1, w1 = w.alloc (.cells #[.string k, .int .i64 s, .bool g, .string v, .int .i64 t] 41) := ⟨_, rfl⟩
  have hb1 : Blk w1 w.heap.size 41 #[.string k, .int .i64 s, .bool g, .string v, .int .i64 t] := by rw [hw1]; exact Blk.new _ _ _
  have hc1 : Chg (fun _ => False) w w1 := by rw [hw1]; exact (Chg.refl _ _).alloc _
  have x0 := hb1.cell 0
  have x3 := hb1.cell 3
  simp at x0 x3
  obtain ⟨b, hb'⟩ : ∃ b, w.heap.size = b := ⟨_, rfl⟩
  rw [hb'] at x0 x3
  have hq := fun q => quiet_drew' (hh (w1.drewN q) (hc1.drewN q))
  have HH := Lib.hid hh
  have HW1 := Lib.hid hw1
  have HC1 := Lib.hid hc1
  have HB' := Lib.hid hb'
  have HQ := Lib.hid hq
  clear hh hw1 hc1 hb' hq
  clear h hb1
  unfold entA
  go_enter Tryz.func179, Tryz.ntmps179
  go_upto_region 3 with fail
  rw [HB'.out] at *
  rw [← HW1.out]
  go_quiet ((go_at_call 180; exact HQ.out _))
  go_wp2_with fail
  go_ret
  exact ⟨rfl, HC1.out.drewN _⟩
end Go.Proofs.YtljabmkmngbhkaaGreatDoor
