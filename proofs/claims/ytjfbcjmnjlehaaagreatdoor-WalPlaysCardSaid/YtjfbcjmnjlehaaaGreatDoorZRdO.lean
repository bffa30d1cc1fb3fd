/-
  The document's disk: Spoil.
-/
import Derived.Test.YtjfbcjmnjlehaaaGreatDoorZRdJ
import Derived.Laws.IdiomStrings
namespace Go.Proofs.YtjfbcjmnjlehaaaGreatDoor
open Go.RowKit
set_option linter.unusedVariables false
set_option linter.unusedSimpArgs false

section
variable (r : Nat) (D : DiskV) (M : Nat → Prop) (n : ByteArray) (bit : Int) (hb1 : -9223372036854775808 ≤ bit) (hb2 : bit ≤ 9223372036854775807) (w : World) (h : RAt w r D M)
include h hb1 hb2
set_option maxRecDepth 100000 in
set_option maxHeartbeats 4000000 in
theorem rd_spoil : Calls Tryz.prog 65 #[.pointer (some ⟨r, 0, none⟩), .string n, .int .i64 bit] w fun e w' => e = .returned (.tuple #[]) ∧ RPost w r M (spoilD D n bit) w' := by
  have hat := h
  obtain ⟨hok, y, hin, hce⟩ := h
  obtain ⟨_, c1, c2, _⟩ := rin_cells hin
  have hfind := fun W hW => rd_find (ofNames D.names) n y.nv W (hin.parts.names.same (w' := W) hW)
  rw [findN_eq] at hfind
  have hsame : ∀ W, Chg (fun _ => False) w W → RPost w r M D W := fun W hW => RPost.same (hat.same hW) hat.lt (hW.mono (by simp))
  have HS := Lib.hid hsame
  unfold spoilD
  cases hk : look D.names n with
  | none =>
    rw [hk] at hfind
    have HF := Lib.hid hfind
    clear hin hfind hok hk hat hsame hce
    generalize y.nv = nv at *
    go_enter Tryz.func65, Tryz.ntmps65
    go_wp2_with fail
    refine (HF.out _ (Chg.refl _ _)).mono ?_
    rintro e w' ⟨rfl, m, rfl⟩
    go_wp2_with fail
    first | go_end0 | refine bodyPost_ret (results_none rfl _ _ _) rfl ?_
    exact ⟨rfl, HS.out _ (by ((repeat (first | exact Chg.refl _ _ | assumption | refine Chg.drewN ?_ _ | refine Chg.drew ?_ | refine Chg.alloc ?_ _ | refine Chg.setCell ?_ (by first | (simp; done) | (simp; omega) | (intro h; simp at h; omega)) _))))⟩
  | some i =>
    rw [hk] at hfind
    have hi := hok.names.lt _ (look_some hk)
    have hi0 : (0 : Int) ≤ (i : Int) := by omega
    have hi1 : (i : Int) < (D.files.length : Int) := by have : i < D.files.length := hi; omega
    have hd : dataOf D i = D.files[i].data := by unfold dataOf; rw [List.getElem?_eq_getElem hi]
    have hsz : D.files[i].data.size ≤ 1048576 := (hok.file _ (List.getElem_mem hi)).2
    obtain ⟨fa, fc, hfv, _, hfn, hfread⟩ := rfl_form hin.parts.files
    obtain ⟨fb, rfl, hfb, hfo, z0, _⟩ := hfread i hi
    rw [hfv] at c1
    have HF := Lib.hid hfind
    simp only [hd]
    by_cases hz : D.files[i].data.size = 0
    · rw [if_pos hz]
      have hz' : (D.files[i].data.size : Int) = 0 := by omega
      generalize D.files[i].data = dt at *
      clear hin hfind hok hk hat hsame hce hd hfv hfread hfo hz
      generalize y.nv = nv at *
      go_enter Tryz.func65, Tryz.ntmps65
      go_wp2_with fail
      refine (HF.out _ (Chg.refl _ _)).mono ?_
      rintro e w' ⟨rfl, m, rfl⟩
      go_wp2_with fail
      first | go_end0 | refine bodyPost_ret (results_none rfl _ _ _) rfl ?_
      exact ⟨rfl, HS.out _ (by ((repeat (first | exact Chg.refl _ _ | assumption | refine Chg.drewN ?_ _ | refine Chg.drew ?_ | refine Chg.alloc ?_ _ | refine Chg.setCell ?_ (by first | (simp; done) | (simp; omega) | (intro h; simp at h; omega)) _))))⟩
    · rw [if_neg hz]
      have hpos : 0 < D.files[i].data.size := by omega
      have hz' : ¬ (D.files[i].data.size : Int) = 0 := by omega
      obtain ⟨r0, r1⟩ := restI_bd (n := bit) (b := 8 * (D.files[i].data.size : Int)) (by omega)
      obtain ⟨K, hK⟩ : ∃ K : Nat, restI bit (8 * (D.files[i].data.size : Int)) = K := ⟨_, (Int.toNat_of_nonneg r0).symm⟩
      have hrest := fun W => rd_rest bit (8 * (D.files[i].data.size : Int)) (by omega) (by omega) hb1 hb2 W
      rw [hK] at hrest r1
      have hKj : K / 8 < D.files[i].data.size := by omega
      have hw8 : IntKind.i64.wrap (8 * (D.files[i].data.size : Int)) = 8 * (D.files[i].data.size : Int) := IntWalk.i64_in _ (by omega)
      have hst := fun W hW => hin.stData hfo (W := W) hW hi (spoilB D.files[i].data bit)
      have happ : (setF D i fun f => ⟨spoilB D.files[i].data bit, f.lasts⟩) = setF D i (fun f => ⟨spoilB f.data bit, f.lasts⟩) := by
        unfold setF
        rw [modify_set _ _ hi, modify_set _ _ hi]
      rw [happ] at hst
      have hok2 : DiskOk (setF D i (fun f => ⟨spoilB f.data bit, f.lasts⟩)) := setF_ok hok fun f hf => by
        have := hok.file f (List.mem_of_getElem? hf)
        simp only [spoilB, xorAt_size]
        exact this
      have zf0 := hin.parts.files.frozen hfo (i * 2)
      have hrl := hin.blk.lt
      have hpost : ∀ W, Chg (fun _ => False) w W → ∀ W', Chg (fun _ => False) (W.setCell ⟨fb, i * 2, none⟩ (.string (spoilB D.files[i].data bit))) W' → RPost w r M (setF D i (fun f => ⟨spoilB f.data bit, f.lasts⟩)) W' := fun W hW W' hW' => by
        obtain ⟨g1, g2⟩ := hst W hW
        exact RPost.same ⟨hok2, y, g1.same hW', hce⟩ hin.lt ((g2.mono fun k _ e => by rw [e]; exact hin.mine fb (.inr (.inl hfo))).then (hW'.mono (by simp)))
      have HPO := Lib.hid hpost
      have HR := Lib.hid hrest
      have HK := Lib.hid hK
      clear hin hfind hok hk hat hsame hce hd hfv hfread hfo hz hrest hK hst happ hok2 hpost
      generalize hdt : D.files[i].data = dt at *
      clear hdt
      generalize y.nv = nv at *
      go_enter Tryz.func65, Tryz.ntmps65
      go_wp2_with fail
      refine (HF.out _ (Chg.refl _ _)).mono ?_
      rintro e w' ⟨rfl, m, rfl⟩
      go_wp2_with fail
      refine (HR.out _).mono ?_
      rintro e w' ⟨rfl, rfl⟩
      obtain ⟨cp, hcp⟩ : ∃ cp, cp = grownCap (w.drewN m) dt.size 0 5 := ⟨_, rfl⟩
      have hcv : (convert 9 60 (.string dt)).run Tryz.prog (w.drewN m) = _ := run_bytes_of_string (P := Tryz.prog) (w.drewN m) 9 60 5 dt Tryz.underlying9 Tryz.underlying60 Tryz.underlying5
      rw [← hcp] at hcv
      obtain ⟨W1, hW1⟩ : ∃ W1, W1 = ((w.drewN m).drew.alloc (.cells (bytesRow dt cp) 5 ((bytesRow dt cp).size, (bytesRow dt cp).size + 1))) := ⟨_, rfl⟩
      rw [← hW1] at hcv
      have hcv' : (convert 9 60 (.string dt)).run Tryz.prog (w.drewN m) = .ok (.slice (some ⟨w.heap.size, 0, none⟩) dt.size cp) W1 := hcv
      have hc1 : Chg (fun _ => False) w W1 := by rw [hW1]; ((repeat (first | exact Chg.refl _ _ | assumption | refine Chg.drewN ?_ _ | refine Chg.drew ?_ | refine Chg.alloc ?_ _ | refine Chg.setCell ?_ (by first | (simp; done) | (simp; omega) | (intro h; simp at h; omega)) _)))
      have hheap : W1.heap[w.heap.size]? = some (.cells (bytesRow dt cp) 5 ((bytesRow dt cp).size, (bytesRow dt cp).size + 1)) := by rw [hW1]; exact heap_alloc_new (w.drewN m).drew _
      obtain ⟨j, hj⟩ : ∃ j, j = K / 8 := ⟨_, rfl⟩
      obtain ⟨q, hq⟩ : ∃ q, q = K % 8 := ⟨_, rfl⟩
      have hdiv : ((K : Int) / 8) = (j : Int) := by omega
      have hdiv2 : (K : Int).tdiv 8 = (j : Int) := by rw [Int.tdiv_eq_ediv_of_nonneg (by omega)]; exact hdiv
      have hmod : (K : Int) % 8 = (q : Int) := by omega
      have hmod2 : (K : Int).tmod 8 = (q : Int) := by rw [Int.tmod_eq_emod_of_nonneg (by omega)]; exact hmod
      have hjl : j < dt.size := by omega
      have hlt8 : (j : Int) < (dt.size : Int) := by omega
      have hm8 : q < 8 := by omega
      obtain ⟨g, hg⟩ : ∃ g, g = w.heap.size := ⟨_, rfl⟩
      rw [← hg] at hcv' hheap
      have hrsz : dt.size ≤ (bytesRow dt cp).size := by unfold bytesRow; rw [Array.size_append, Array.size_map]; exact Nat.le_add_right _ _
      have hrow : ∀ k, (hk : k < dt.size) → (bytesRow dt cp)[k]? = some (.int .u8 ((dt.data[k].toNat : Nat) : Int)) := fun k hk => by
        unfold bytesRow
        rw [Array.getElem?_append_left (by rw [Array.size_map]; exact hk), Array.getElem?_map, Array.getElem?_eq_getElem hk]
        rfl
      have hcw : ∀ k, (hk : k < dt.size) → W1.cell? ⟨g, k, none⟩ = some (.int .u8 ((dt.data[k].toNat : Nat) : Int)) := fun k hk => (cell_of_row W1 g k _ _ _ hheap).trans (hrow k hk)
      obtain ⟨b8, hb8⟩ : ∃ b8 : UInt8, b8 = dt.data[j] := ⟨_, rfl⟩
      have hcell : W1.cell? ⟨g, j, none⟩ = some (.int .u8 (b8.toNat : Int)) := by rw [hb8]; exact hcw j hjl
      have hfz : W1.frozen? ⟨g, j, none⟩ = false := by
        simp only [World.frozen?, hheap]
        simp
        omega
      have hsp : spoilB dt bit = xorAt dt j (UInt8.ofNat (1 <<< q)) := by
        unfold spoilB
        rw [HK.out, Int.toNat_natCast, hj, hq]
      have hsz2 : (spoilB dt bit).size = dt.size := by rw [hsp, xorAt_size]
      have hx : bits BinOp.xor IntKind.u8 (b8.toNat : Int) (2 ^ q % 256) = (((b8 ^^^ UInt8.ofNat (1 <<< q)).toNat : Nat) : Int) := xor_bits b8 q hm8
      have hback : ∀ n2, (convert 60 9 (.slice (some ⟨g, 0, none⟩) dt.size cp)).run Tryz.prog ((W1.setCell ⟨g, j, none⟩ (.int .u8 ((b8 ^^^ UInt8.ofNat (1 <<< q)).toNat : Nat))).drewN n2) = .ok (.string (spoilB dt bit)) ((W1.setCell ⟨g, j, none⟩ (.int .u8 ((b8 ^^^ UInt8.ofNat (1 <<< q)).toNat : Nat))).drewN n2) := fun n2 => by
        have := run_bytes_at (w := ((W1.setCell ⟨g, j, none⟩ (.int .u8 ((b8 ^^^ UInt8.ofNat (1 <<< q)).toNat : Nat))).drewN n2)) (a := some ⟨g, 0, none⟩) (cap := cp) (s := spoilB dt bit) (fun _ => ⟨g, 0, rfl, fun k x hk => by
          have hkl : k < dt.size := by
            have := (List.getElem?_eq_some_iff.1 hk).1
            rw [byteCells_length, hsz2] at this
            exact this
          rw [hsp, xorAt_cells dt j _ hjl] at hk
          rw [Nat.zero_add]
          show (W1.setCell ⟨g, j, none⟩ (.int .u8 ((b8 ^^^ UInt8.ofNat (1 <<< q)).toNat : Nat))).cell? ⟨g, k, none⟩ = some x
          have hb : (W1.setCell ⟨g, j, none⟩ (.int .u8 ((b8 ^^^ UInt8.ofNat (1 <<< q)).toNat : Nat))).heap[g]? = some (.cells ((bytesRow dt cp).setIfInBounds j (.int .u8 ((b8 ^^^ UInt8.ofNat (1 <<< q)).toNat : Nat))) 5 ((bytesRow dt cp).size, (bytesRow dt cp).size + 1)) := by
            simp [World.setCell, Array.getElem?_modify, hheap]
          rw [cell_of_row _ g k _ _ _ hb, Array.getElem?_setIfInBounds]
          by_cases hjk : j = k
          · subst hjk
            rw [List.getElem?_set_self (by rw [byteCells_length]; exact hjl)] at hk
            rw [if_pos rfl, if_pos (by omega), hb8]
            exact hk
          · rw [List.getElem?_set_ne hjk] at hk
            rw [if_neg hjk, hrow k hkl]
            unfold byteCells at hk
            rw [List.getElem?_map, Array.getElem?_toList, Array.getElem?_eq_getElem hkl] at hk
            exact hk⟩)
        rw [hsz2] at this
        exact this
      rw [← hx] at hback
      obtain ⟨W2, hW2⟩ : ∃ W2, W2 = W1.setCell ⟨g, j, none⟩ (.int .u8 (bits BinOp.xor IntKind.u8 (b8.toNat : Int) (2 ^ q % 256))) := ⟨_, rfl⟩
      rw [← hW2] at hback
      have hbk0 : (convert 60 9 (.slice (some ⟨g, 0, none⟩) dt.size cp)).run Tryz.prog W2 = .ok (.string (spoilB dt bit)) W2 := hback 0
      have hbk1 : (convert 60 9 (.slice (some ⟨g, 0, none⟩) dt.size cp)).run Tryz.prog W2.drew = .ok (.string (spoilB dt bit)) W2.drew := hback 1
      have hc2 : Chg (fun _ => False) w W2 := by rw [hW2]; exact hc1.setCell (fun h => by simp at h; omega) _
      have hgl : g < W1.heap.size := by rw [hW1, hg]; simp
      have hfbg : ¬ fb = g := by omega
      have hrg : ¬ r = g := by omega
      have z0' := (hc2.cell (p := ⟨fb, i * 2, none⟩) hfb (by simp)).trans z0
      have zf0' := (hc2.frozen (p := ⟨fb, i * 2, none⟩) hfb (by simp)).trans zf0
      have c1' := (hc2.cell (p := ⟨r, 1, none⟩) hrl (by simp)).trans c1
      have hfb2 : fb < W2.heap.size := Nat.lt_of_lt_of_le hfb hc2.size
      have hrl2 : r < W2.heap.size := Nat.lt_of_lt_of_le hrl hc2.size
      have HC2 := Lib.hid hc2
      have HW2 := Lib.hid hW2
      clear hW1 hcv hc1 hcp hheap hrow hcw hb8 hsp hsz2 hback hj hq hg HK hx hc2 hW2
      generalize spoilB dt bit = sx at *
      go_wp2_with fail
      rw [← HW2.out]
      clear hcell hfz HW2
      go_region
      all_goals
        go_wp2_with fail
        first | go_end0 | refine bodyPost_ret (results_none rfl _ _ _) rfl ?_
        exact ⟨rfl, HPO.out W2 HC2.out _ (by ((repeat (first | exact Chg.refl _ _ | assumption | refine Chg.drewN ?_ _ | refine Chg.drew ?_ | refine Chg.alloc ?_ _ | refine Chg.setCell ?_ (by first | (simp; done) | (simp; omega) | (intro h; simp at h; omega)) _))))⟩
end
end Go.Proofs.YtjfbcjmnjlehaaaGreatDoor
