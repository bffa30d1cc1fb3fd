/-
  The program's frame: Get.
-/
import Derived.Test.YtahahginmgidjaaGreatDoorZMg09
import Derived.Deep.QuietTactic
import Derived.BigQuiet
import Derived.Laws.Strings
namespace Go.Proofs.YtahahginmgidjaaGreatDoor
open Go.RowKit
set_option linter.unusedVariables false
set_option linter.unusedSimpArgs false

def GetNo (w : World) (n : Nat) (e : Ending) (w' : World) : Prop := e = .returned (.tuple #[.string ⟨#[]⟩, .int .i64 0, .int .i64 (n : Int)]) ∧ Chg (fun _ => False) w w'
set_option maxRecDepth 100000 in
set_option maxHeartbeats 2000000 in
theorem fra_get_none (s : ByteArray) (w : World) (hs : s.size ≤ 1000000000) : Calls Tryz.prog 119 #[.string s, .int .i64 (s.size : Int)] w (GetNo w 10) := by
  go_enter Tryz.func119, Tryz.ntmps119
  go_wp2_with fail
  exact bodyPost_ret (v := .tuple #[.string ⟨#[]⟩, .int .i64 0, .int .i64 10]) (by simp [results, Tryz.results119, go_sem]) rfl ⟨rfl, Chg.refl _ _⟩
theorem rest_list (s : ByteArray) (k : Nat) : (s.extract k s.size).data.toList = s.data.toList.drop k := by
  rw [ByteArray.data_extract, Array.toList_extract]
  simp only [List.extract]
  exact List.take_of_length_le (by rw [List.length_drop, Array.length_toList]; exact Nat.le_refl _)
theorem str_some {r : ByteArray} (h : 0 < r.size) : r.toList.isEmpty = false := by
  rw [ByteArray.toList_eq, List.isEmpty_eq_false_iff]
  intro e
  have h2 := congrArg List.length e
  rw [Array.length_toList] at h2
  have h3 : r.size = 0 := h2
  omega
theorem rest_size (s : ByteArray) (k : Nat) : (s.extract k s.size).size = s.size - k := by simp
set_option maxRecDepth 100000 in
set_option maxHeartbeats 2000000 in
theorem fra_get_short (s r : ByteArray) (k : Nat) (w : World) (hs : s.size ≤ 1000000000) (hk : k < s.size) (hr : s.extract k s.size = r) (h4 : r.size < 4) : Calls Tryz.prog 119 #[.string s, .int .i64 (k : Int)] w (GetNo w 3) := by
  have h0 := str_some (r := r) (by have h1 := rest_size s k; rw [hr] at h1; omega)
  go_enter Tryz.func119, Tryz.ntmps119
  go_wp2_with fail
  exact bodyPost_ret (v := .tuple #[.string ⟨#[]⟩, .int .i64 0, .int .i64 3]) (by simp [results, Tryz.results119, go_sem]) rfl ⟨rfl, Chg.refl _ _⟩
theorem or_i64 (a b : Nat) (ha : a < 9223372036854775808) (hb : b < 9223372036854775808) : bits .or .i64 (a : Int) (b : Int) = ((a ||| b : Nat) : Int) := by
  have hx : a ||| b < 2 ^ 63 := Nat.or_lt_two_pow (by omega) (by omega)
  show IntKind.i64.wrap ((BitVec.ofInt 64 (a : Int) ||| BitVec.ofInt 64 (b : Int)).toNat : Int) = _
  rw [BitVec.toNat_or, ofInt_u64 a (by omega), ofInt_u64 b (by omega)]
  exact IntWalk.i64_in _ (by omega)
theorem or_add (a b : Nat) (hb : b < 256) : a * 256 ||| b = a * 256 + b := by
  have := Nat.shiftLeft_add_eq_or_of_lt (show b < 2 ^ 8 by omega) a
  rw [Nat.shiftLeft_eq] at this
  exact this.symm
theorem or_head (a b : UInt8) : bits .or .i64 ((a.toNat : Int) * 256) (b.toNat : Int) = ((a.toNat * 256 + b.toNat : Nat) : Int) := by
  have ha := a.toNat_lt
  have hb := b.toNat_lt
  have := or_i64 (a.toNat * 256) b.toNat (by omega) (by omega)
  rw [or_add _ _ hb, Int.natCast_mul] at this
  exact this
theorem or_u32_byte (c : Nat) (d : UInt8) (h : c < 16777216) : bits .or .u32 ((c : Int) * 256) (d.toNat : Int) = ((c * 256 + d.toNat : Nat) : Int) := by
  have hd := d.toNat_lt
  have := u32_or_nat (c * 256) d.toNat (by omega) (by omega)
  rw [or_add _ _ hd, Int.natCast_mul] at this
  exact this
theorem not_byte (a : UInt8) : bits .xor .u8 (if IntKind.u8.signed = true then -1 else IntKind.u8.max) (a.toNat : Int) = ((255 - a.toNat : Nat) : Int) := by
  rw [if_neg (by decide)]
  exact not8 _ a.toNat_lt
theorem run_at (r : ByteArray) (i : Nat) (h : i < r.size) (w : World) : (Instr.index 9 (.string r) (.int .i64 (i : Int))).run Tryz.prog w = .ok (.int .u8 (r[i].toNat : Int)) w := by
  rw [run_index_string w _ _ _ _ Tryz.underlying9, dif_pos ⟨by omega, by omega⟩]
  simp
set_option maxRecDepth 100000 in
set_option maxHeartbeats 2000000 in
theorem fra_get_form (s r : ByteArray) (k : Nat) (w : World) (hs : s.size ≤ 1000000000) (hk : k < s.size) (hr : s.extract k s.size = r) (h4 : 4 ≤ r.size) (hf : ¬ (r[0].toNat + r[2].toNat = 255 ∧ r[1].toNat + r[3].toNat = 255)) : Calls Tryz.prog 119 #[.string s, .int .i64 (k : Int)] w (GetNo w 4) := by
  have h0 := str_some (r := r) (by have h1 := rest_size s k; rw [hr] at h1; omega)
  have b0 := r[0].toNat_lt
  have b1 := r[1].toNat_lt
  have b2 := r[2].toNat_lt
  have b3 := r[3].toNat_lt
  have i0 : ∀ w, (Instr.index 9 (.string r) (.int .i64 0)).run Tryz.prog w = .ok (.int .u8 (r[0].toNat : Int)) w := fun w => run_at r 0 (by omega) w
  have i1 : ∀ w, (Instr.index 9 (.string r) (.int .i64 1)).run Tryz.prog w = .ok (.int .u8 (r[1].toNat : Int)) w := fun w => run_at r 1 (by omega) w
  have i2 : ∀ w, (Instr.index 9 (.string r) (.int .i64 2)).run Tryz.prog w = .ok (.int .u8 (r[2].toNat : Int)) w := fun w => run_at r 2 (by omega) w
  have i3 : ∀ w, (Instr.index 9 (.string r) (.int .i64 3)).run Tryz.prog w = .ok (.int .u8 (r[3].toNat : Int)) w := fun w => run_at r 3 (by omega) w
  have ho := or_head r[0] r[1]
  have n0 := not_byte r[0]
  have n1 := not_byte r[1]
  obtain ⟨N, hN⟩ : ∃ N, r[0].toNat * 256 + r[1].toNat = N := ⟨_, rfl⟩
  rw [hN] at ho
  have HN := Lib.hid hN
  clear hN
  by_cases hA : r[0].toNat + r[2].toNat = 255
  · have hB : ¬ (r[1].toNat + r[3].toNat = 255) := fun h => hf ⟨hA, h⟩
    have q0 : ((r[2].toNat : Int) != ((255 - r[0].toNat : Nat) : Int)) = false := by simp; omega
    have q1 : ((r[2].toNat : Int) == ((255 - r[0].toNat : Nat) : Int)) = true := by simp; omega
    have q2 : ((r[3].toNat : Int) != ((255 - r[1].toNat : Nat) : Int)) = true := by simp; omega
    have q3 : ((r[3].toNat : Int) == ((255 - r[1].toNat : Nat) : Int)) = false := by simp; omega
    clear hA hB hf
    go_enter Tryz.func119, Tryz.ntmps119
    go_wp2_with fail
    go_quiet (fail)
    go_wp2_with fail
    go_quiet (fail)
    go_wp2_with fail
    exact bodyPost_ret (v := .tuple #[.string ⟨#[]⟩, .int .i64 0, .int .i64 4]) (by simp [results, Tryz.results119, go_sem]) rfl ⟨rfl, by ((repeat (first | exact Chg.refl _ _ | assumption | refine Chg.drewN ?_ _ | refine Chg.drew ?_ | refine Chg.alloc ?_ _ | refine Chg.setCell ?_ (by first | (simp; done) | (simp; omega) | (intro h; simp at h; omega)) _)))⟩
  · have q0 : ((r[2].toNat : Int) != ((255 - r[0].toNat : Nat) : Int)) = true := by simp; omega
    have q1 : ((r[2].toNat : Int) == ((255 - r[0].toNat : Nat) : Int)) = false := by simp; omega
    clear hA hf
    go_enter Tryz.func119, Tryz.ntmps119
    go_wp2_with fail
    go_quiet (fail)
    go_wp2_with fail
    go_quiet (fail)
    go_wp2_with fail
    exact bodyPost_ret (v := .tuple #[.string ⟨#[]⟩, .int .i64 0, .int .i64 4]) (by simp [results, Tryz.results119, go_sem]) rfl ⟨rfl, by ((repeat (first | exact Chg.refl _ _ | assumption | refine Chg.drewN ?_ _ | refine Chg.drew ?_ | refine Chg.alloc ?_ _ | refine Chg.setCell ?_ (by first | (simp; done) | (simp; omega) | (intro h; simp at h; omega)) _)))⟩
set_option maxRecDepth 100000 in
set_option maxHeartbeats 2000000 in
theorem fra_get_short2 (s r : ByteArray) (k N : Nat) (w : World) (hs : s.size ≤ 1000000000) (hk : k < s.size) (hr : s.extract k s.size = r) (h4 : 4 ≤ r.size) (hA : r[0].toNat + r[2].toNat = 255) (hB : r[1].toNat + r[3].toNat = 255) (hN : r[0].toNat * 256 + r[1].toNat = N) (h8 : r.size < 8 + N) :
    Calls Tryz.prog 119 #[.string s, .int .i64 (k : Int)] w (GetNo w 3) := by
  have h0 := str_some (r := r) (by omega)
  have b0 := r[0].toNat_lt
  have b1 := r[1].toNat_lt
  have b2 := r[2].toNat_lt
  have b3 := r[3].toNat_lt
  have hNb : N ≤ 65535 := by omega
  have i0 : ∀ w, (Instr.index 9 (.string r) (.int .i64 0)).run Tryz.prog w = .ok (.int .u8 (r[0].toNat : Int)) w := fun w => run_at r 0 (by omega) w
  have i1 : ∀ w, (Instr.index 9 (.string r) (.int .i64 1)).run Tryz.prog w = .ok (.int .u8 (r[1].toNat : Int)) w := fun w => run_at r 1 (by omega) w
  have i2 : ∀ w, (Instr.index 9 (.string r) (.int .i64 2)).run Tryz.prog w = .ok (.int .u8 (r[2].toNat : Int)) w := fun w => run_at r 2 (by omega) w
  have i3 : ∀ w, (Instr.index 9 (.string r) (.int .i64 3)).run Tryz.prog w = .ok (.int .u8 (r[3].toNat : Int)) w := fun w => run_at r 3 (by omega) w
  have ho := or_head r[0] r[1]
  have n0 := not_byte r[0]
  have n1 := not_byte r[1]
  rw [hN] at ho
  have HN := Lib.hid hN
  have q0 : ((r[2].toNat : Int) != ((255 - r[0].toNat : Nat) : Int)) = false := by simp; omega
  have q1 : ((r[2].toNat : Int) == ((255 - r[0].toNat : Nat) : Int)) = true := by simp; omega
  have q2 : ((r[3].toNat : Int) != ((255 - r[1].toNat : Nat) : Int)) = false := by simp; omega
  have q3 : ((r[3].toNat : Int) == ((255 - r[1].toNat : Nat) : Int)) = true := by simp; omega
  clear hA hB hN
  go_enter Tryz.func119, Tryz.ntmps119
  go_wp2_with fail
  go_quiet (fail)
  go_wp2_with fail
  go_quiet (fail)
  go_wp2_with fail
  exact bodyPost_ret (v := .tuple #[.string ⟨#[]⟩, .int .i64 0, .int .i64 3]) (by simp [results, Tryz.results119, go_sem]) rfl ⟨rfl, by ((repeat (first | exact Chg.refl _ _ | assumption | refine Chg.drewN ?_ _ | refine Chg.drew ?_ | refine Chg.alloc ?_ _ | refine Chg.setCell ?_ (by first | (simp; done) | (simp; omega) | (intro h; simp at h; omega)) _)))⟩
theorem at8_get (r : ByteArray) (i : Nat) (h : i < r.size) : at8 r.data.toList i = r[i].toNat := by
  have h' : i < r.data.toList.length := by rw [Array.length_toList]; exact h
  unfold at8
  rw [List.getD_eq_getElem?_getD, List.getElem?_eq_getElem h']
  simp
  rfl
theorem run_cut (r : ByteArray) (l h : Nat) (h1 : l ≤ h) (h2 : h ≤ r.size) (w : World) : (Instr.slice 9 (.string r) (some (.int .i64 (l : Int))) (some (.int .i64 (h : Int))) none).run Tryz.prog w = .ok (.string (r.extract l h)) w := by
  have e1 : (l : Int) ≤ (h : Int) := by omega
  have e2 : (h : Int) ≤ (r.size : Int) := by omega
  simp [Instr.slice, run_underlying Tryz.underlying9, Instr.sliceBounds, run_sliceBound, sliced, e1, e2, h1, h2]
def beP (r : ByteArray) : Nat → Nat
  | 0 => 0
  | k + 1 => beP r k * 256 + at8 r.data.toList (4 + k)
theorem beP_lt (r : ByteArray) : ∀ k, beP r k < 256 ^ k
  | 0 => by simp [beP]
  | k + 1 => by
    have h1 := beP_lt r k
    have h2 := at8_lt r.data.toList (4 + k)
    show beP r k * 256 + at8 r.data.toList (4 + k) < 256 ^ (k + 1)
    rw [Nat.pow_succ]
    omega
theorem beP_four (r : ByteArray) : beP r 4 = be4 r.data.toList := by
  have e : ∀ i, at8 r.data.toList (4 + i) = at8 r.data.toList (4 + i) := fun _ => rfl
  show (((0 * 256 + at8 r.data.toList 4) * 256 + at8 r.data.toList 5) * 256 + at8 r.data.toList 6) * 256 + at8 r.data.toList 7 = _
  unfold be4
  omega
def GetYes (w : World) (k N : Nat) (r : ByteArray) (e : Ending) (w' : World) : Prop := e = .returned (.tuple #[.string (r.extract 8 (8 + N)), .int .i64 ((k : Int) + 8 + (N : Int)), .int .i64 0]) ∧ Chg (fun _ => False) w w'
set_option maxRecDepth 100000 in
set_option maxHeartbeats 2000000 in
theorem fra_get_ok (s r : ByteArray) (k N : Nat) (w : World) (hs : s.size ≤ 1000000000) (hk : k < s.size) (hr : s.extract k s.size = r) (h4 : 4 ≤ r.size) (hA : r[0].toNat + r[2].toNat = 255) (hB : r[1].toNat + r[3].toNat = 255) (hN : r[0].toNat * 256 + r[1].toNat = N) (h8 : 8 + N ≤ r.size) (hsum : be4 r.data.toList = crcSum (r.extract 8 (8 + N)).data.toList) :
    Calls Tryz.prog 119 #[.string s, .int .i64 (k : Int)] w (GetYes w k N r) := by
  have h0 := str_some (r := r) (by omega)
  have b0 := r[0].toNat_lt
  have b1 := r[1].toNat_lt
  have b2 := r[2].toNat_lt
  have b3 := r[3].toNat_lt
  have hNb : N ≤ 65535 := by omega
  have i0 : ∀ w, (Instr.index 9 (.string r) (.int .i64 0)).run Tryz.prog w = .ok (.int .u8 (r[0].toNat : Int)) w := fun w => run_at r 0 (by omega) w
  have i1 : ∀ w, (Instr.index 9 (.string r) (.int .i64 1)).run Tryz.prog w = .ok (.int .u8 (r[1].toNat : Int)) w := fun w => run_at r 1 (by omega) w
  have i2 : ∀ w, (Instr.index 9 (.string r) (.int .i64 2)).run Tryz.prog w = .ok (.int .u8 (r[2].toNat : Int)) w := fun w => run_at r 2 (by omega) w
  have i3 : ∀ w, (Instr.index 9 (.string r) (.int .i64 3)).run Tryz.prog w = .ok (.int .u8 (r[3].toNat : Int)) w := fun w => run_at r 3 (by omega) w
  have ho := or_head r[0] r[1]
  have n0 := not_byte r[0]
  have n1 := not_byte r[1]
  rw [hN] at ho
  have HN := Lib.hid hN
  have q0 : ((r[2].toNat : Int) != ((255 - r[0].toNat : Nat) : Int)) = false := by simp; omega
  have q1 : ((r[2].toNat : Int) == ((255 - r[0].toNat : Nat) : Int)) = true := by simp; omega
  have q2 : ((r[3].toNat : Int) != ((255 - r[1].toNat : Nat) : Int)) = false := by simp; omega
  have q3 : ((r[3].toNat : Int) == ((255 - r[1].toNat : Nat) : Int)) = true := by simp; omega
  clear hA hB hN
  obtain ⟨body, hb⟩ : ∃ b, r.extract 8 (8 + N) = b := ⟨_, rfl⟩
  rw [hb] at hsum
  have hsl : ∀ w, (Instr.slice 9 (.string r) (some (.int .i64 8)) (some (.int .i64 (8 + (N : Int)))) none).run Tryz.prog w = .ok (.string body) w := fun w => by rw [← hb]; exact run_cut r 8 (8 + N) (by omega) h8 w
  have HSUM := Lib.hid hsum
  have HBODY := Lib.hid hb
  clear hsum
  have h8' : 8 + (N : Int) ≤ (r.size : Int) := by omega
  have hrs : r.size ≤ 1000000000 := by have h1 := rest_size s k; rw [hr] at h1; omega
  go_enter Tryz.func119, Tryz.ntmps119
  go_wp2_with fail
  go_quiet (fail)
  go_wp2_with fail
  go_quiet (fail)
  go_wp2_with fail
  go_loop [10, 63] (fun c i => ∃ m : Nat, m ≤ 4 ∧ i = .int .i64 m ∧ c = .int .u32 (beP r m : Nat)) (fun _ i => 4 - (intOf i).toNat)
  case atStart => exact ⟨0, by omega, rfl, rfl⟩
  case round =>
    obtain ⟨m, hm, rfl, rfl⟩ := hrel
    have hlt := beP_lt r m
    have hsucc : beP r (m + 1) = beP r m * 256 + at8 r.data.toList (4 + m) := rfl
    by_cases hm4 : m < 4
    · have hp : 256 ^ m ≤ 16777216 := by
        have : 256 ^ m ≤ 256 ^ 3 := Nat.pow_le_pow_right (by omega) (by omega)
        exact this
      obtain ⟨c, hc⟩ : ∃ c, beP r m = c := ⟨_, rfl⟩
      rw [hc] at hlt hsucc ⊢
      have hcl : c < 16777216 := by omega
      have hat : at8 r.data.toList (4 + m) = r[4 + m].toNat := at8_get r (4 + m) (by omega)
      rw [hat] at hsucc
      have him : ∀ w, (Instr.index 9 (.string r) (.int .i64 (4 + (m : Int)))).run Tryz.prog w = .ok (.int .u8 (r[4 + m].toNat : Int)) w := fun w => run_at r (4 + m) (by omega) w
      obtain ⟨d, hd⟩ : ∃ d, r[4 + m] = d := ⟨_, rfl⟩
      rw [hd] at hsucc him
      have hdl := d.toNat_lt
      have HS := Lib.hid hsucc
      clear hc hsucc hat hd hp hlt i0 i1 i2 i3 ho n0 n1 q0 q1 q2 q3 hsl
      have hor := or_u32_byte c d hcl
      rw [← HS.out] at hor
      go_wp2_with fail
      exact ⟨⟨m + 1, by omega, by go_num, rfl⟩, by simp [intOf]; omega⟩
    · obtain rfl : m = 4 := by omega
      obtain ⟨c, hc⟩ : ∃ c, beP r 4 = c := ⟨_, rfl⟩
      have hbs : body.size ≤ 1000000000 := by rw [← HBODY.out]; simp; omega
      have hcs : crcSum body.data.toList = c := by rw [← HSUM.out, ← beP_four]; exact hc
      have hsm := fra_sum body
      rw [hcs] at hsm
      rw [hc]
      have HSM := Lib.hid hsm
      clear hsm hcs hc hlt hsucc i0 i1 i2 i3 ho n0 n1 q0 q1 q2 q3 hsl
      go_wp2_with fail
      refine (HSM.out _ hbs).mono ?_
      rintro e w' ⟨rfl, rfl⟩
      go_wp2_with fail
      exact bodyPost_ret (v := .tuple #[.string body, .int .i64 ((k : Int) + 8 + (N : Int)), .int .i64 0]) (by simp [results, Tryz.results119, go_sem]) rfl ⟨by rw [HBODY.out], by ((repeat (first | exact Chg.refl _ _ | assumption | refine Chg.drewN ?_ _ | refine Chg.drew ?_ | refine Chg.alloc ?_ _ | refine Chg.setCell ?_ (by first | (simp; done) | (simp; omega) | (intro h; simp at h; omega)) _)))⟩
set_option maxRecDepth 100000 in
set_option maxHeartbeats 2000000 in
theorem fra_get_sum (s r : ByteArray) (k N : Nat) (w : World) (hs : s.size ≤ 1000000000) (hk : k < s.size) (hr : s.extract k s.size = r) (h4 : 4 ≤ r.size) (hA : r[0].toNat + r[2].toNat = 255) (hB : r[1].toNat + r[3].toNat = 255) (hN : r[0].toNat * 256 + r[1].toNat = N) (h8 : 8 + N ≤ r.size) (hsum : be4 r.data.toList ≠ crcSum (r.extract 8 (8 + N)).data.toList) :
    Calls Tryz.prog 119 #[.string s, .int .i64 (k : Int)] w (GetNo w 6) := by
  have h0 := str_some (r := r) (by omega)
  have b0 := r[0].toNat_lt
  have b1 := r[1].toNat_lt
  have b2 := r[2].toNat_lt
  have b3 := r[3].toNat_lt
  have hNb : N ≤ 65535 := by omega
  have i0 : ∀ w, (Instr.index 9 (.string r) (.int .i64 0)).run Tryz.prog w = .ok (.int .u8 (r[0].toNat : Int)) w := fun w => run_at r 0 (by omega) w
  have i1 : ∀ w, (Instr.index 9 (.string r) (.int .i64 1)).run Tryz.prog w = .ok (.int .u8 (r[1].toNat : Int)) w := fun w => run_at r 1 (by omega) w
  have i2 : ∀ w, (Instr.index 9 (.string r) (.int .i64 2)).run Tryz.prog w = .ok (.int .u8 (r[2].toNat : Int)) w := fun w => run_at r 2 (by omega) w
  have i3 : ∀ w, (Instr.index 9 (.string r) (.int .i64 3)).run Tryz.prog w = .ok (.int .u8 (r[3].toNat : Int)) w := fun w => run_at r 3 (by omega) w
  have ho := or_head r[0] r[1]
  have n0 := not_byte r[0]
  have n1 := not_byte r[1]
  rw [hN] at ho
  have HN := Lib.hid hN
  have q0 : ((r[2].toNat : Int) != ((255 - r[0].toNat : Nat) : Int)) = false := by simp; omega
  have q1 : ((r[2].toNat : Int) == ((255 - r[0].toNat : Nat) : Int)) = true := by simp; omega
  have q2 : ((r[3].toNat : Int) != ((255 - r[1].toNat : Nat) : Int)) = false := by simp; omega
  have q3 : ((r[3].toNat : Int) == ((255 - r[1].toNat : Nat) : Int)) = true := by simp; omega
  clear hA hB hN
  obtain ⟨body, hb⟩ : ∃ b, r.extract 8 (8 + N) = b := ⟨_, rfl⟩
  rw [hb] at hsum
  have hsl : ∀ w, (Instr.slice 9 (.string r) (some (.int .i64 8)) (some (.int .i64 (8 + (N : Int)))) none).run Tryz.prog w = .ok (.string body) w := fun w => by rw [← hb]; exact run_cut r 8 (8 + N) (by omega) h8 w
  have HSUM := Lib.hid hsum
  have HBODY := Lib.hid hb
  clear hsum
  have h8' : 8 + (N : Int) ≤ (r.size : Int) := by omega
  have hrs : r.size ≤ 1000000000 := by have h1 := rest_size s k; rw [hr] at h1; omega
  go_enter Tryz.func119, Tryz.ntmps119
  go_wp2_with fail
  go_quiet (fail)
  go_wp2_with fail
  go_quiet (fail)
  go_wp2_with fail
  go_loop [10, 63] (fun c i => ∃ m : Nat, m ≤ 4 ∧ i = .int .i64 m ∧ c = .int .u32 (beP r m : Nat)) (fun _ i => 4 - (intOf i).toNat)
  case atStart => exact ⟨0, by omega, rfl, rfl⟩
  case round =>
    obtain ⟨m, hm, rfl, rfl⟩ := hrel
    have hlt := beP_lt r m
    have hsucc : beP r (m + 1) = beP r m * 256 + at8 r.data.toList (4 + m) := rfl
    by_cases hm4 : m < 4
    · have hp : 256 ^ m ≤ 16777216 := by
        have : 256 ^ m ≤ 256 ^ 3 := Nat.pow_le_pow_right (by omega) (by omega)
        exact this
      obtain ⟨c, hc⟩ : ∃ c, beP r m = c := ⟨_, rfl⟩
      rw [hc] at hlt hsucc ⊢
      have hcl : c < 16777216 := by omega
      have hat : at8 r.data.toList (4 + m) = r[4 + m].toNat := at8_get r (4 + m) (by omega)
      rw [hat] at hsucc
      have him : ∀ w, (Instr.index 9 (.string r) (.int .i64 (4 + (m : Int)))).run Tryz.prog w = .ok (.int .u8 (r[4 + m].toNat : Int)) w := fun w => run_at r (4 + m) (by omega) w
      obtain ⟨d, hd⟩ : ∃ d, r[4 + m] = d := ⟨_, rfl⟩
      rw [hd] at hsucc him
      have hdl := d.toNat_lt
      have HS := Lib.hid hsucc
      clear hc hsucc hat hd hp hlt i0 i1 i2 i3 ho n0 n1 q0 q1 q2 q3 hsl
      have hor := or_u32_byte c d hcl
      rw [← HS.out] at hor
      go_wp2_with fail
      exact ⟨⟨m + 1, by omega, by go_num, rfl⟩, by simp [intOf]; omega⟩
    · obtain rfl : m = 4 := by omega
      obtain ⟨c, hc⟩ : ∃ c, beP r 4 = c := ⟨_, rfl⟩
      have hbs : body.size ≤ 1000000000 := by rw [← HBODY.out]; simp; omega
      obtain ⟨c', hc'⟩ : ∃ c', crcSum body.data.toList = c' := ⟨_, rfl⟩
      have hcs : ¬ c = c' := by rw [← hc, ← hc', beP_four]; exact HSUM.out
      have hq1 : ((c : Int) != (c' : Int)) = true := by simp; omega
      have hq2 : ((c : Int) == (c' : Int)) = false := by simp; omega
      have hsm := fra_sum body
      rw [hc'] at hsm
      rw [hc]
      have HSM := Lib.hid hsm
      clear hsm hcs hc hc' hlt hsucc i0 i1 i2 i3 ho n0 n1 q0 q1 q2 q3 hsl
      go_wp2_with fail
      refine (HSM.out _ hbs).mono ?_
      rintro e w' ⟨rfl, rfl⟩
      go_wp2_with fail
      exact bodyPost_ret (v := .tuple #[.string ⟨#[]⟩, .int .i64 0, .int .i64 6]) (by simp [results, Tryz.results119, go_sem]) rfl ⟨rfl, by ((repeat (first | exact Chg.refl _ _ | assumption | refine Chg.drewN ?_ _ | refine Chg.drew ?_ | refine Chg.alloc ?_ _ | refine Chg.setCell ?_ (by first | (simp; done) | (simp; omega) | (intro h; simp at h; omega)) _)))⟩
/-- Get, whole: what it finds at a place of bytes. -/
def GetPost (w : World) (s : ByteArray) (k : Nat) (e : Ending) (w' : World) : Prop :=
  (∃ b : ByteArray, getF (s.data.toList.drop k) = 0 ∧ b.data.toList = fraBody (s.data.toList.drop k) ∧ e = .returned (.tuple #[.string b, .int .i64 ((k + (8 + fraN (s.data.toList.drop k)) : Nat) : Int), .int .i64 0]) ∧ Chg (fun _ => False) w w') ∨
  (getF (s.data.toList.drop k) ≠ 0 ∧ GetNo w (getF (s.data.toList.drop k)) e w')
theorem fra_get (s : ByteArray) (k : Nat) (w : World) (hs : s.size ≤ 1000000000) (hk : k ≤ s.size) : Calls Tryz.prog 119 #[.string s, .int .i64 (k : Int)] w (GetPost w s k) := by
  obtain ⟨r, hr⟩ : ∃ r, s.extract k s.size = r := ⟨_, rfl⟩
  have hl : s.data.toList.drop k = r.data.toList := by rw [← hr, rest_list]
  have hn : r.data.toList.length = r.size := by rw [Array.length_toList]; rfl
  have hrs := rest_size s k
  rw [hr] at hrs
  unfold GetPost
  rw [hl]
  have no : ∀ n, n ≠ 0 → getF r.data.toList = n → ∀ e w', GetNo w n e w' → (∃ b : ByteArray, getF r.data.toList = 0 ∧ b.data.toList = fraBody r.data.toList ∧ e = .returned (.tuple #[.string b, .int .i64 ((k + (8 + fraN r.data.toList) : Nat) : Int), .int .i64 0]) ∧ Chg (fun _ => False) w w') ∨ (getF r.data.toList ≠ 0 ∧ GetNo w (getF r.data.toList) e w') := fun n hn0 hg e w' h => .inr (by rw [hg]; exact ⟨hn0, h⟩)
  by_cases hks : k = s.size
  · refine (by rw [hks]; exact fra_get_none s w hs : Calls Tryz.prog 119 #[.string s, .int .i64 (k : Int)] w (GetNo w 10)).mono fun e w' h => no 10 (by omega) ?_ e w' h
    unfold getF
    rw [if_pos (by omega)]
  by_cases h4 : r.size < 4
  · refine (fra_get_short s r k w hs (by omega) hr h4).mono fun e w' h => no 3 (by omega) ?_ e w' h
    unfold getF
    rw [if_neg (by omega), if_pos (by omega)]
  have a0 := at8_get r 0 (by omega)
  have a1 := at8_get r 1 (by omega)
  have a2 := at8_get r 2 (by omega)
  have a3 := at8_get r 3 (by omega)
  by_cases hf : r[0].toNat + r[2].toNat = 255 ∧ r[1].toNat + r[3].toNat = 255
  · have hN : r[0].toNat * 256 + r[1].toNat = fraN r.data.toList := by unfold fraN; rw [a0, a1]
    have hf' : at8 r.data.toList 0 + at8 r.data.toList 2 = 255 ∧ at8 r.data.toList 1 + at8 r.data.toList 3 = 255 := by rw [a0, a1, a2, a3]; exact hf
    by_cases h8 : r.size < 8 + fraN r.data.toList
    · refine (fra_get_short2 s r k _ w hs (by omega) hr (by omega) hf.1 hf.2 hN h8).mono fun e w' h => no 3 (by omega) ?_ e w' h
      unfold getF
      rw [if_neg (by omega), if_neg (by omega), if_neg (fun h => h hf'), if_pos (by omega)]
    · have hbody : (r.extract 8 (8 + fraN r.data.toList)).data.toList = fraBody r.data.toList := by
        rw [ByteArray.data_extract, Array.toList_extract]
        simp only [List.extract]
        unfold fraBody
        rw [show 8 + fraN r.data.toList - 8 = fraN r.data.toList by omega]
      by_cases hsum : be4 r.data.toList = crcSum (fraBody r.data.toList)
      · refine (fra_get_ok s r k _ w hs (by omega) hr (by omega) hf.1 hf.2 hN (by omega) (by rw [hbody]; exact hsum)).mono fun e w' h => .inl ⟨_, ?_, hbody, ?_, h.2⟩
        · unfold getF
          rw [if_neg (by omega), if_neg (by omega), if_neg (fun h => h hf'), if_neg (by omega), if_neg (fun h => h hsum)]
        · rw [show ((k + (8 + fraN r.data.toList) : Nat) : Int) = (k : Int) + 8 + (fraN r.data.toList : Int) by omega]
          exact h.1
      · refine (fra_get_sum s r k _ w hs (by omega) hr (by omega) hf.1 hf.2 hN (by omega) (by rw [hbody]; exact hsum)).mono fun e w' h => no 6 (by omega) ?_ e w' h
        unfold getF
        rw [if_neg (by omega), if_neg (by omega), if_neg (fun h => h hf'), if_neg (by omega), if_pos hsum]
  · refine (fra_get_form s r k w hs (by omega) hr (by omega) hf).mono fun e w' h => no 4 (by omega) ?_ e w' h
    unfold getF
    rw [if_neg (by omega), if_neg (by omega), if_pos (by rw [a0, a1, a2, a3]; exact hf)]
end Go.Proofs.YtahahginmgidjaaGreatDoor
