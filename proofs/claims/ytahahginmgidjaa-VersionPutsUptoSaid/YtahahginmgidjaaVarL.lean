/-
  The document's Get: the walk.
-/
import Derived.Test.YtahahginmgidjaaVarK
namespace Go.Proofs.Ytahahginmgidjaa
open Go.RowKit
set_option linter.unusedVariables false
set_option linter.unusedSimpArgs false

theorem rdb_blk {w : World} {r : Nat} {s : ByteArray} {st : Nat ⊕ Int} (h : RdB w r s st) : ∃ cs, Blk w r 61 cs := by
  cases st with
  | inl k => exact ⟨_, h.2⟩
  | inr c => obtain ⟨_, k, h⟩ := h; exact ⟨_, h⟩
theorem rdb_chg {w w' : World} {r : Nat} {s : ByteArray} {st : Nat ⊕ Int} {S : Nat → Prop} (h : RdB w r s st) (hc : Chg S w w') (hr : ¬ S r) : RdB w' r s st := by
  cases st with
  | inl k => exact ⟨h.1, h.2.chg hc hr⟩
  | inr c => obtain ⟨h0, k, h⟩ := h; exact ⟨h0, k, h.chg hc hr⟩
set_option maxRecDepth 100000 in
set_option maxHeartbeats 8000000 in
theorem rv_get (s : ByteArray) (hs : s.size ≤ 281474976710656) (w : World) : Calls Try.prog 6 #[.string s] w fun e w' => EditAt2 w' s.data.toList e ∧ Chg (fun _ => False) w w' := by
  obtain ⟨g, hg⟩ : ∃ g, w.heap.size = g := ⟨_, rfl⟩
  obtain ⟨L, hL⟩ : ∃ L, s.data.toList = L := ⟨_, rfl⟩
  have hLl : L.length = s.size := by rw [← hL, bs_len]
  obtain ⟨w1, hw1⟩ : ∃ w1, w1 = ((w.alloc (.cells #[.slice none 0 0, .slice none 0 0, .int .i64 0, .int .i64 0, .int .i64 0] 31)).alloc (.cells #[.string s, .int .i64 0, .int .i64 0] 61)).alloc (.cells #[.slice none 0 0, .slice none 0 0, .int .i64 0, .int .i64 0, .int .i64 0] 31) := ⟨_, rfl⟩
  have ho : Blk w1 g 31 #[.slice none 0 0, .slice none 0 0, .int .i64 0, .int .i64 0, .int .i64 0] := by rw [hw1, ← hg]; exact ((Blk.new _ _ _).alloc _).alloc _
  have hr : RdB w1 (g + 1) s (.inl 0) := ⟨by omega, by rw [hw1, ← hg]; exact (Blk.new1 _ _ _ _).alloc _⟩
  have he : Blk w1 (g + 1 + 1) 31 #[.slice none 0 0, .slice none 0 0, .int .i64 0, .int .i64 0, .int .i64 0] := by rw [hw1, ← hg]; exact Blk.new2 _ _ _ _ _
  have hc : Chg (fun _ => False) w w1 := by rw [hw1]; ((repeat (first | exact Chg.refl _ _ | assumption | refine Chg.drewN ?_ _ | refine Chg.drew ?_ | refine Chg.alloc ?_ _ | refine Chg.setCell ?_ (by first | (simp; done) | (simp; omega) | (intro h; simp at h; omega)) _)))
  have hnum := fun (st : Nat ⊕ Int) W (hR : RdB W (g + 1) s st) => rv_number (g + 1) s st hs W hR
  have hbel := fun (st : Nat ⊕ Int) (m : Int) W (hR : RdB W (g + 1) s st) => rv_below (g + 1) s st m hs W hR
  have htxt := fun (st : Nat ⊕ Int) W (hR : RdB W (g + 1) s st) => rv_words (g + 1) s st hs W hR
  rw [hL] at hnum hbel htxt
  rw [hL]
  have HW1 := Lib.hid hw1
  have HO := Lib.hid ho
  have HE := Lib.hid he
  have HR := Lib.hid hr
  have HC := Lib.hid hc
  have HNUM := Lib.hid hnum
  have HBEL := Lib.hid hbel
  have HTXT := Lib.hid htxt
  have HG := Lib.hid hg
  have HLL := Lib.hid hLl
  have t1 := tie_start L
  clear hw1 ho he hr hc hnum hbel htxt hLl hL
  go_enter Try.func6, Try.ntmps6
  go_upto_region 3 with fail
  rw [← HW1.out]
  go_wp2_with fail
  refine (HNUM.out (.inl 0) w1 HR.out).mono ?_
  rintro e wb ⟨rfl, hR, hc1⟩
  have HO2 := Lib.hid (HO.out.chg hc1 (by omega))
  have HE2 := Lib.hid (HE.out.chg hc1 (by omega))
  have HC2 := Lib.hid (HC.out.trans hc1 fun k hk h => by have := HG.out; omega)
  have HR2 := Lib.hid hR
  clear HO HE HC HR hc1 hR
  have HO := HO2
  have HE := HE2
  have HC := HC2
  have HR := HR2
  clear HO2 HE2 HC2 HR2
  obtain ⟨wb0, hwb0⟩ : ∃ x, x = wb := ⟨_, rfl⟩
  rw [← hwb0] at HO HE HR HC ⊢
  clear hwb0
  clear wb
  have t1' := t1
  clear t1'
  obtain ⟨log, hlog⟩ : ∃ x, (nextN L (.inl 0)).1 = x := ⟨_, rfl⟩
  obtain ⟨st1, hst1⟩ : ∃ x, (nextN L (.inl 0)).2 = x := ⟨_, rfl⟩
  rw [hlog] at t1 ⊢
  rw [hst1] at t1 HR
  clear hlog hst1
  have y0 := HE.out.cell 0
  have y1 := HE.out.cell 1
  have y2 := HE.out.cell 2
  have y3 := HE.out.cell 3
  have y4 := HE.out.cell 4
  have f0 := HE.out.frozen 0
  have f1 := HE.out.frozen 1
  have f2 := HE.out.frozen 2
  have f3 := HE.out.frozen 3
  have f4 := HE.out.frozen 4
  have hel := HE.out.lt
  simp at y0 y1 y2 y3 y4
  obtain ⟨wc0, hwc0⟩ : ∃ x, x = wb0.setCell ⟨g + 1 + 1, 2, none⟩ (.int .i64 log) := ⟨_, rfl⟩
  have hswc0 : Blk wc0 (g + 1 + 1) 31 #[.slice none 0 0, .slice none 0 0, .int .i64 log, .int .i64 0, .int .i64 0] := by
    rw [hwc0]
    simpa using HE.out.set_ 2 (.int .i64 log)
  have hcwc0 : Chg (fun k => k = g + 1 + 1) wb0 wc0 := by rw [hwc0]; ((repeat (first | with_reducible exact Chg.refl _ _ | with_reducible assumption | with_reducible refine Chg.drewN ?_ _ | with_reducible refine Chg.drew ?_ | with_reducible refine Chg.alloc ?_ _ | with_reducible refine Chg.setCell ?_ (by first | (simp; done) | (simp; omega) | (intro h; simp at h; omega)) _)))
  go_upto_region 4 with fail
  rw [← hwc0]
  clear y0 y1 y2 y3 y4 f0 f1 f2 f3 f4 hel
  have HO2 := Lib.hid (HO.out.chg hcwc0 (by omega))
  have HE2 := Lib.hid hswc0
  have HR2 := Lib.hid (rdb_chg HR.out hcwc0 (by omega))
  have HC2 := Lib.hid (HC.out.trans hcwc0 fun k hk h => by have := HG.out; omega)
  clear HO HE HC HR hswc0 hcwc0 hwc0
  have HO := HO2
  have HE := HE2
  have HC := HC2
  have HR := HR2
  clear HO2 HE2 HC2 HR2
  go_wp2_with fail
  refine (HNUM.out st1 wc0 HR.out).mono ?_
  rintro e wb ⟨rfl, hR, hc1⟩
  have HO2 := Lib.hid (HO.out.chg hc1 (by omega))
  have HE2 := Lib.hid (HE.out.chg hc1 (by omega))
  have HC2 := Lib.hid (HC.out.trans hc1 fun k hk h => by have := HG.out; omega)
  have HR2 := Lib.hid hR
  clear HO HE HC HR hc1 hR
  have HO := HO2
  have HE := HE2
  have HC := HC2
  have HR := HR2
  clear HO2 HE2 HC2 HR2
  obtain ⟨wb1, hwb1⟩ : ∃ x, x = wb := ⟨_, rfl⟩
  rw [← hwb1] at HO HE HR HC ⊢
  clear hwb1
  clear wb
  have t1' := tie_next (ed' := fun n j => ed3 L log n j) (fun k => by rw [ed2]; cases getV L k <;> rfl) t1
  clear t1
  have t1 := t1'
  clear t1'
  obtain ⟨next, hnext⟩ : ∃ x, (nextN L st1).1 = x := ⟨_, rfl⟩
  obtain ⟨st2, hst2⟩ : ∃ x, (nextN L st1).2 = x := ⟨_, rfl⟩
  rw [hnext] at t1 ⊢
  rw [hst2] at t1 HR
  clear hnext hst2
  have y0 := HE.out.cell 0
  have y1 := HE.out.cell 1
  have y2 := HE.out.cell 2
  have y3 := HE.out.cell 3
  have y4 := HE.out.cell 4
  have f0 := HE.out.frozen 0
  have f1 := HE.out.frozen 1
  have f2 := HE.out.frozen 2
  have f3 := HE.out.frozen 3
  have f4 := HE.out.frozen 4
  have hel := HE.out.lt
  simp at y0 y1 y2 y3 y4
  obtain ⟨wc1, hwc1⟩ : ∃ x, x = wb1.setCell ⟨g + 1 + 1, 3, none⟩ (.int .i64 next) := ⟨_, rfl⟩
  have hswc1 : Blk wc1 (g + 1 + 1) 31 #[.slice none 0 0, .slice none 0 0, .int .i64 log, .int .i64 next, .int .i64 0] := by
    rw [hwc1]
    simpa using HE.out.set_ 3 (.int .i64 next)
  have hcwc1 : Chg (fun k => k = g + 1 + 1) wb1 wc1 := by rw [hwc1]; ((repeat (first | with_reducible exact Chg.refl _ _ | with_reducible assumption | with_reducible refine Chg.drewN ?_ _ | with_reducible refine Chg.drew ?_ | with_reducible refine Chg.alloc ?_ _ | with_reducible refine Chg.setCell ?_ (by first | (simp; done) | (simp; omega) | (intro h; simp at h; omega)) _)))
  go_upto_region 5 with fail
  rw [← hwc1]
  clear y0 y1 y2 y3 y4 f0 f1 f2 f3 f4 hel
  have HO2 := Lib.hid (HO.out.chg hcwc1 (by omega))
  have HE2 := Lib.hid hswc1
  have HR2 := Lib.hid (rdb_chg HR.out hcwc1 (by omega))
  have HC2 := Lib.hid (HC.out.trans hcwc1 fun k hk h => by have := HG.out; omega)
  clear HO HE HC HR hswc1 hcwc1 hwc1
  have HO := HO2
  have HE := HE2
  have HC := HC2
  have HR := HR2
  clear HO2 HE2 HC2 HR2
  go_wp2_with fail
  refine (HNUM.out st2 wc1 HR.out).mono ?_
  rintro e wb ⟨rfl, hR, hc1⟩
  have HO2 := Lib.hid (HO.out.chg hc1 (by omega))
  have HE2 := Lib.hid (HE.out.chg hc1 (by omega))
  have HC2 := Lib.hid (HC.out.trans hc1 fun k hk h => by have := HG.out; omega)
  have HR2 := Lib.hid hR
  clear HO HE HC HR hc1 hR
  have HO := HO2
  have HE := HE2
  have HC := HC2
  have HR := HR2
  clear HO2 HE2 HC2 HR2
  obtain ⟨wb2, hwb2⟩ : ∃ x, x = wb := ⟨_, rfl⟩
  rw [← hwb2] at HO HE HR HC ⊢
  clear hwb2
  clear wb
  have t1' := tie_next (ed' := fun n j => ed4 L log next n j) (fun k => by rw [ed3]; cases getV L k <;> rfl) t1
  clear t1
  have t1 := t1'
  clear t1'
  obtain ⟨seq, hseq⟩ : ∃ x, (nextN L st2).1 = x := ⟨_, rfl⟩
  obtain ⟨st3, hst3⟩ : ∃ x, (nextN L st2).2 = x := ⟨_, rfl⟩
  rw [hseq] at t1 ⊢
  rw [hst3] at t1 HR
  clear hseq hst3
  have y0 := HE.out.cell 0
  have y1 := HE.out.cell 1
  have y2 := HE.out.cell 2
  have y3 := HE.out.cell 3
  have y4 := HE.out.cell 4
  have f0 := HE.out.frozen 0
  have f1 := HE.out.frozen 1
  have f2 := HE.out.frozen 2
  have f3 := HE.out.frozen 3
  have f4 := HE.out.frozen 4
  have hel := HE.out.lt
  simp at y0 y1 y2 y3 y4
  obtain ⟨wc2, hwc2⟩ : ∃ x, x = wb2.setCell ⟨g + 1 + 1, 4, none⟩ (.int .i64 seq) := ⟨_, rfl⟩
  have hswc2 : Blk wc2 (g + 1 + 1) 31 #[.slice none 0 0, .slice none 0 0, .int .i64 log, .int .i64 next, .int .i64 seq] := by
    rw [hwc2]
    simpa using HE.out.set_ 4 (.int .i64 seq)
  have hcwc2 : Chg (fun k => k = g + 1 + 1) wb2 wc2 := by rw [hwc2]; ((repeat (first | with_reducible exact Chg.refl _ _ | with_reducible assumption | with_reducible refine Chg.drewN ?_ _ | with_reducible refine Chg.drew ?_ | with_reducible refine Chg.alloc ?_ _ | with_reducible refine Chg.setCell ?_ (by first | (simp; done) | (simp; omega) | (intro h; simp at h; omega)) _)))
  go_upto_region 6 with fail
  rw [← hwc2]
  clear y0 y1 y2 y3 y4 f0 f1 f2 f3 f4 hel
  have HO2 := Lib.hid (HO.out.chg hcwc2 (by omega))
  have HE2 := Lib.hid hswc2
  have HR2 := Lib.hid (rdb_chg HR.out hcwc2 (by omega))
  have HC2 := Lib.hid (HC.out.trans hcwc2 fun k hk h => by have := HG.out; omega)
  clear HO HE HC HR hswc2 hcwc2 hwc2
  have HO := HO2
  have HE := HE2
  have HC := HC2
  have HR := HR2
  clear HO2 HE2 HC2 HR2
  go_wp2_with fail
  refine (HBEL.out st3 4097 wc2 HR.out).mono ?_
  rintro e wb ⟨rfl, hR, hc1⟩
  have HO2 := Lib.hid (HO.out.chg hc1 (by omega))
  have HE2 := Lib.hid (HE.out.chg hc1 (by omega))
  have HC2 := Lib.hid (HC.out.trans hc1 fun k hk h => by have := HG.out; omega)
  have HR2 := Lib.hid hR
  clear HO HE HC HR hc1 hR
  have HO := HO2
  have HE := HE2
  have HC := HC2
  have HR := HR2
  clear HO2 HE2 HC2 HR2
  have t5 := tie_below (most := 4097) (ed' := fun n j => ed5 L log next seq n.toNat j []) (fun k => by rw [ed4]; cases belowV L k 4097 <;> rfl) t1
  have hnb := nextB_in (L := L) (most := 4097) (by decide) st3
  obtain ⟨n, hn⟩ : ∃ x, (nextB L 4097 st3).1 = x := ⟨_, rfl⟩
  obtain ⟨st4, hst4⟩ : ∃ x, (nextB L 4097 st3).2 = x := ⟨_, rfl⟩
  rw [hn] at t5 hnb ⊢
  rw [hst4] at t5 HR
  clear hn hst4 t1
  obtain ⟨hn0, hnb⟩ := hnb
  obtain ⟨N, rfl⟩ : ∃ N : Nat, n = (N : Int) := ⟨n.toNat, by omega⟩
  rw [Int.toNat_natCast] at t5
  go_wp2_with fail
  go_loopw [7] (fun i wr => ∃ (j : Nat) (st : Nat ⊕ Int) (acc : List Int) (dv : Value), j ≤ N ∧ i = .int .i64 (j : Int) ∧ acc.length = j ∧ Tie L (fun k => ed5 L log next seq (N - j) k acc) st ∧ Blk wr g 31 #[.slice none 0 0, .slice none 0 0, .int .i64 0, .int .i64 0, .int .i64 0] ∧ Blk wr (g + 1 + 1) 31 #[.slice none 0 0, dv, .int .i64 log, .int .i64 next, .int .i64 seq] ∧ Lst i64C wr dv acc ∧ (∀ b, dv.ownBlock = some b → w.heap.size ≤ b) ∧ RdB wr (g + 1) s st ∧ Chg (fun _ => False) w wr) (fun i _ => N - (intOf i).toNat)
  case atStart => exact ⟨0, st4, [], _, by omega, rfl, rfl, t5, HO.out, HE.out, Lst.nil _ _, by simp [Value.ownBlock], HR.out, HC.out⟩
  case round =>
    obtain ⟨j, st, acc, dv, hj, rfl, hacc, ht, ho, he, hl, hown, hr, hcr⟩ := hrel
    obtain ⟨da, dcap, rfl, _⟩ := i64_form hl
    rw [hacc] at he hl hown
    clear HO HE HR HC t5
    have HO := Lib.hid ho
    have HE := Lib.hid he
    have HR := Lib.hid hr
    have HC := Lib.hid hcr
    have HT := Lib.hid ht
    have HL := Lib.hid hl
    have HOWN := Lib.hid hown
    obtain ⟨wq, rfl⟩ : ∃ wq : World, wq = wr := ⟨_, rfl⟩
    clear ho he hr hcr ht hl hown
    -- the way behind the loop, whatever ended it
    by_cases hgo : j < N ∧ ∃ k, st = .inl k
    · obtain ⟨hjN, k, rfl⟩ := hgo
      have hlt : (j : Int) < (N : Int) := by omega
      have hrb := HR.out.2
      have z2 := hrb.cell 2
      simp at z2
      obtain ⟨m, hm⟩ : ∃ m, N - j = m + 1 := ⟨N - j - 1, by omega⟩
      clear hrb
      go_wp2_with fail
      refine (HNUM.out (.inl k) wq HR.out).mono ?_
      rintro e wb ⟨rfl, hR, hc1⟩
      have HL2 := Lib.hid (show Lst i64C wb (.slice da j dcap) acc from HL.out.chg hc1 fun b hb e => by
        obtain ⟨cs, hB⟩ := HL.out.typed hb
        exact hB.ne_ HR.out.2 (by decide) e)
      have HO2 := Lib.hid (HO.out.chg hc1 (by omega))
      have HE2 := Lib.hid (HE.out.chg hc1 (by omega))
      have HC2 := Lib.hid (HC.out.trans hc1 fun k hk h => by have := HG.out; omega)
      have HR2 := Lib.hid hR
      have ht2 : ∀ f st', (nextN L (.inl k)) = (f, st') → Tie L (fun k => ed5 L log next seq (N - (j + 1)) k (acc ++ [f])) st' := fun f st' he => by
        have h1 : editV L = ed5 L log next seq (N - j) k acc := HT.out
        have e2 : N - (j + 1) = m := by omega
        rw [e2]
        rw [hm, ed5, dropsV_step] at h1
        cases hv : getV L k with
        | inl x =>
          have e : nextN L (.inl k) = (x.1, .inl x.2) := by simp only [nextN, hv]
          rw [e] at he
          injection he with e3 e4
          subst e3 e4
          rw [hv] at h1
          exact h1
        | inr c =>
          have e : nextN L (.inl k) = (0, .inr c) := by simp only [nextN, hv]
          rw [e] at he
          injection he with e3 e4
          subst e4
          rw [hv] at h1
          exact h1
      obtain ⟨f, hf⟩ : ∃ x, (nextN L (.inl k)).1 = x := ⟨_, rfl⟩
      obtain ⟨st', hst'⟩ : ∃ x, (nextN L (.inl k)).2 = x := ⟨_, rfl⟩
      have ht3 := ht2 f st' (by rw [← hf, ← hst'])
      rw [hf] at *
      rw [hst'] at HR2
      have HT3 := Lib.hid ht3
      clear hf hst' ht2 ht3 hR hc1 HO HE HC HR HT HL z2
      have HE := HE2
      have y1 := HE.out.cell 1
      simp at y1
      go_wp2_with (at_builtin; refine wpList_lst_app i64Ok _ (by rfl) _ _ (by rfl) acc (.slice da j dcap) f (by rfl) (HL2.out.same (by ((repeat (first | exact Chg.refl _ _ | assumption | refine Chg.drewN ?_ _ | refine Chg.drew ?_ | refine Chg.alloc ?_ _ | refine Chg.setCell ?_ (by first | (simp; done) | (simp; omega) | (intro h; simp at h; omega)) _))))) wb.heap.size (by rfl) (by omega) (Blk.new _ _ _) ?_)
      intro v' w4 hl4 hc4 hk4
      have hca : Chg (fun _ => False) wb (wb.alloc (.cells #[.int .i64 f] 2)) := by ((repeat (first | exact Chg.refl _ _ | assumption | refine Chg.drewN ?_ _ | refine Chg.drew ?_ | refine Chg.alloc ?_ _ | refine Chg.setCell ?_ (by first | (simp; done) | (simp; omega) | (intro h; simp at h; omega)) _)))
      have hla : Lst i64C (wb.alloc (.cells #[.int .i64 f] 2)) (.slice da j dcap) acc := HL2.out.same hca
      have hne : ∀ b, (Value.slice da j dcap).ownBlock = some b → b ≠ g ∧ b ≠ g + 1 ∧ b ≠ g + 1 + 1 := fun b hb => by
        obtain ⟨cs, hB⟩ := HL2.out.typed hb
        obtain ⟨cs', hR⟩ := rdb_blk HR2.out
        exact ⟨hB.ne_ HO2.out (by decide), hB.ne_ hR (by decide), hB.ne_ HE.out (by decide)⟩
      have ho4 := (HO2.out.chg hca (by simp)).chg hc4 fun e => (hne g e).1 rfl
      have he4 := (HE.out.chg hca (by simp)).chg hc4 fun e => (hne (g + 1 + 1) e).2.2 rfl
      have hr4 : RdB w4 (g + 1) s st' := rdb_chg (rdb_chg HR2.out hca (by simp)) hc4 fun e => (hne (g + 1) e).2.1 rfl
      have hcw4 : Chg (fun _ => False) w w4 := (HC2.out.then hca).trans hc4 fun b hb e => by
        have := HOWN.out b e
        omega
      have hown4 : ∀ b, v'.ownBlock = some b → w.heap.size ≤ b := fun b hb => by
        rcases hk4 b hb with e | e
        · exact HOWN.out b e
        · have := HC2.out.size; omega
      obtain ⟨va, vc, rfl, _⟩ := i64_form hl4
      have hll : (acc ++ [f]).length = j + 1 := by simp [hacc]
      rw [hll] at hl4 hown4 ⊢
      clear y1
      have y1 := he4.cell 1
      have f1 := he4.frozen 1
      have hel := he4.lt
      simp at y1
      obtain ⟨w5, hw5⟩ : ∃ w5, w5 = w4.setCell ⟨g + 1 + 1, 1, none⟩ (.slice va (j + 1) vc) := ⟨_, rfl⟩
      have he5 : Blk w5 (g + 1 + 1) 31 #[.slice none 0 0, .slice va (j + 1) vc, .int .i64 log, .int .i64 next, .int .i64 seq] := by
        rw [hw5]
        simpa using he4.set_ 1 (.slice va (j + 1) vc)
      have hc5 : Chg (fun k => k = g + 1 + 1) w4 w5 := by rw [hw5]; ((repeat (first | with_reducible exact Chg.refl _ _ | with_reducible assumption | with_reducible refine Chg.drewN ?_ _ | with_reducible refine Chg.drew ?_ | with_reducible refine Chg.alloc ?_ _ | with_reducible refine Chg.setCell ?_ (by first | (simp; done) | (simp; omega) | (intro h; simp at h; omega)) _)))
      have hl5 : Lst i64C w5 (.slice va (j + 1) vc) (acc ++ [f]) := hl4.chg hc5 fun b hb e => by
        obtain ⟨cs, hB⟩ := hl4.typed hb
        exact hB.ne_ he4 (by decide) e
      have HO5 := Lib.hid (ho4.chg hc5 (by omega))
      have HE5 := Lib.hid he5
      have HL5 := Lib.hid hl5
      have HOWN5 := Lib.hid hown4
      have HR5 := Lib.hid (rdb_chg hr4 hc5 (by omega))
      have HC5 := Lib.hid (hcw4.trans hc5 fun k hk h => by have := HG.out; omega)
      have HW5 := Lib.hid hw5
      have HLLN := Lib.hid hll
      clear he5 hl5 hown4 hr4 hcw4 hc5 hw5 ho4 he4 hl4 hc4 hk4 hne hla hca HE2 HO2 HC2 HR2 HL2
      go_wp2_with fail
      rw [← HW5.out]
      exact ⟨⟨j + 1, st', acc ++ [f], _, by omega, by first | rfl | (simp; done), HLLN.out, HT3.out, HO5.out, HE5.out, HL5.out, HOWN5.out, HR5.out, HC5.out⟩, by simp [intOf]; omega⟩
    · have ways : ¬ (j : Int) < (N : Int) ∧ j = N ∧ (∃ k, st = .inl k) ∨ ∃ c, st = .inr c := by
        cases st with
        | inr c => exact .inr ⟨c, rfl⟩
        | inl k => exact .inl ⟨fun h => hgo ⟨by omega, k, rfl⟩, Classical.byContradiction fun h => hgo ⟨by omega, k, rfl⟩, k, rfl⟩
      have HT6 := Lib.hid (show Tie L (fun k => ed6 L log next seq acc k) st by
        rcases ways with ⟨_, hjN, k, rfl⟩ | ⟨c, rfl⟩
        · have h1 : editV L = ed5 L log next seq (N - j) k acc := HT.out
          show editV L = _
          rw [h1, hjN, Nat.sub_self, ed5, dropsV]
        · exact HT.out)
      have hguard : ¬ (j : Int) < (N : Int) ∨ ((j : Int) < (N : Int) ∧ ∃ c, (c == 0) = false ∧ wq.cell? ⟨g + 1, 2, none⟩ = some (.int .i64 c)) := by
        rcases ways with ⟨h, _⟩ | ⟨c, rfl⟩
        · exact .inl h
        · by_cases h : (j : Int) < (N : Int)
          · obtain ⟨hc0, k, hrb⟩ := HR.out
            have z2 := hrb.cell 2
            simp at z2
            exact .inr ⟨h, c, by simpa using hc0, z2⟩
          · exact .inl h
      clear ways hgo
      rcases hguard with hlt | ⟨hlt, c, hq, z2⟩
      · skip
        go_wp2_with fail
        refine (HBEL.out st 4097 wq HR.out).mono ?_
        rintro e wb ⟨rfl, hR, hc1⟩
        have t7 := tie_below (most := 4097) (ed' := fun n j => ed7 L log next seq acc n.toNat j []) (fun k => by rw [ed6]; cases belowV L k 4097 <;> rfl) HT6.out
        have hmb := nextB_in (L := L) (most := 4097) (by decide) st
        have HD := Lib.hid (show Lst i64C wb (.slice da j dcap) acc from HL.out.chg hc1 fun b hb e => by
          obtain ⟨cs, hB⟩ := HL.out.typed hb
          obtain ⟨cs', hR'⟩ := rdb_blk HR.out
          exact hB.ne_ hR' (by decide) e)
        have HO2 := Lib.hid (HO.out.chg hc1 (by omega))
        have HE2 := Lib.hid (HE.out.chg hc1 (by omega))
        have HC2 := Lib.hid (HC.out.trans hc1 fun k hk h => by have := HG.out; omega)
        have HR2 := Lib.hid hR
        clear HO HE HC HR HL hc1 hR
        have HO := HO2
        have HE := HE2
        have HC := HC2
        have HR := HR2
        clear HO2 HE2 HC2 HR2
        obtain ⟨n, hn⟩ : ∃ x, (nextB L 4097 st).1 = x := ⟨_, rfl⟩
        obtain ⟨st6, hst6⟩ : ∃ x, (nextB L 4097 st).2 = x := ⟨_, rfl⟩
        rw [hn] at t7 hmb ⊢
        rw [hst6] at t7 HR
        clear hn hst6 HT HT6
        obtain ⟨hm0, hmb⟩ := hmb
        obtain ⟨M, rfl⟩ : ∃ M : Nat, n = (M : Int) := ⟨n.toNat, by omega⟩
        rw [Int.toNat_natCast] at t7
        obtain ⟨dr, hdr⟩ : ∃ dr, dr = acc := ⟨_, rfl⟩
        rw [← hdr] at t7 HD
        clear HOWN
        go_wp2_with fail
        go_loopw [10] (fun i wr => ∃ (j2 : Nat) (st : Nat ⊕ Int) (acc : List PlaceV) (av : Value), j2 ≤ M ∧ i = .int .i64 (j2 : Int) ∧ acc.length = j2 ∧ Tie L (fun k => ed7 L log next seq dr (M - j2) k acc) st ∧ Blk wr g 31 #[.slice none 0 0, .slice none 0 0, .int .i64 0, .int .i64 0, .int .i64 0] ∧ Blk wr (g + 1 + 1) 31 #[av, .slice da j dcap, .int .i64 log, .int .i64 next, .int .i64 seq] ∧ Lst docC wr av acc ∧ (∀ b, av.ownBlock = some b → w.heap.size ≤ b) ∧ Lst i64C wr (.slice da j dcap) dr ∧ RdB wr (g + 1) s st ∧ Chg (fun _ => False) w wr) (fun i _ => M - (intOf i).toNat)
        case atStart => exact ⟨0, st6, [], _, by omega, rfl, rfl, t7, HO.out, HE.out, Lst.nil _ _, by simp [Value.ownBlock], HD.out, HR.out, HC.out⟩
        case round =>
          obtain ⟨j2, st, acc2, av, hj2, rfl, hacc2, ht, ho, he, hl, hown, hd, hr, hcr⟩ := hrel
          obtain ⟨aa, acap, rfl, _⟩ := doc_form hl
          rw [hacc2] at he hl hown
          clear HO HE HR HC HD t7
          have HO := Lib.hid ho
          have HE := Lib.hid he
          have HR := Lib.hid hr
          have HC := Lib.hid hcr
          have HT := Lib.hid ht
          have HL := Lib.hid hl
          have HOWN := Lib.hid hown
          have HD := Lib.hid hd
          obtain ⟨wq, rfl⟩ : ∃ wq : World, wq = wr := ⟨_, rfl⟩
          clear ho he hr hcr ht hl hown hd
          by_cases hgo : j2 < M ∧ ∃ k, st = .inl k
          · obtain ⟨hjM, k, rfl⟩ := hgo
            have hlt : (j2 : Int) < (M : Int) := by omega
            have hrb := HR.out.2
            have z2 := hrb.cell 2
            simp at z2
            obtain ⟨m, hm⟩ : ∃ m, M - j2 = m + 1 := ⟨M - j2 - 1, by omega⟩
            clear hrb
            obtain ⟨q, hq⟩ : ∃ q, wq.heap.size = q := ⟨_, rfl⟩
            have hqE : g + 1 + 1 < q := by rw [← hq]; exact HE.out.lt
            have hlq : ∀ b, (Value.slice aa j2 acap).ownBlock = some b → b < q := fun b hb => by rw [← hq]; exact HL.out.lt hb
            have hdq : ∀ b, (Value.slice da j dcap).ownBlock = some b → b < q := fun b hb => by rw [← hq]; exact HD.out.lt hb
            have HLQ := Lib.hid hlq
            have HDQ := Lib.hid hdq
            obtain ⟨wm0, hwm0⟩ : ∃ x, x = wq.alloc (.cells #[.int .i64 0, .int .i64 0, .int .i64 0, .string ⟨#[]⟩, .string ⟨#[]⟩] 49) := ⟨_, rfl⟩
            have hcm : Chg (fun _ => False) wq wm0 := by rw [hwm0]; ((repeat (first | exact Chg.refl _ _ | assumption | refine Chg.drewN ?_ _ | refine Chg.drew ?_ | refine Chg.alloc ?_ _ | refine Chg.setCell ?_ (by first | (simp; done) | (simp; omega) | (intro h; simp at h; omega)) _)))
            have HM := Lib.hid (show Blk wm0 q 49 #[.int .i64 0, .int .i64 0, .int .i64 0, .string ⟨#[]⟩, .string ⟨#[]⟩] by rw [hwm0, ← hq]; exact Blk.new _ _ _)
            have HWM0 := Lib.hid hwm0
            have HO2 := Lib.hid (HO.out.chg hcm (by simp))
            have HE2 := Lib.hid (HE.out.chg hcm (by simp))
            have HR2 := Lib.hid (rdb_chg HR.out hcm (by simp))
            have HC2 := Lib.hid (HC.out.then hcm)
            have HL2 := Lib.hid (HL.out.same hcm)
            have HD2 := Lib.hid (HD.out.same hcm)
            clear hwm0 hcm hlq hdq HO HE HR HC HL HD
            have HO := HO2
            have HE := HE2
            have HR := HR2
            have HC := HC2
            have HL := HL2
            have HD := HD2
            clear HO2 HE2 HR2 HC2 HL2 HD2
            go_upto_region 17 with fail
            rw [← HWM0.out]
            clear HWM0
            go_wp2_with fail
            refine (HBEL.out (.inl k) 4 wm0 HR.out).mono ?_
            rintro e wb ⟨rfl, hR, hc1⟩
            have HL2 := Lib.hid (show Lst docC wb (.slice aa j2 acap) acc2 from HL.out.chg hc1 fun b hb e => by
              obtain ⟨cs, hB⟩ := HL.out.typed hb
              obtain ⟨cs', hR'⟩ := rdb_blk HR.out
              exact hB.ne_ hR' (by decide) e)
            have HD2 := Lib.hid (show Lst i64C wb (.slice da j dcap) dr from HD.out.chg hc1 fun b hb e => by
              obtain ⟨cs, hB⟩ := HD.out.typed hb
              obtain ⟨cs', hR'⟩ := rdb_blk HR.out
              exact hB.ne_ hR' (by decide) e)
            have hO := HO.out.chg hc1 (by omega)
            have hE := HE.out.chg hc1 (by omega)
            have hM := HM.out.chg hc1 (by omega)
            have hC := HC.out.trans hc1 fun k hk h => by have := HG.out; omega
            obtain ⟨l, hl⟩ : ∃ x, (nextB L 4 (.inl k)).1 = x := ⟨_, rfl⟩
            obtain ⟨s1, hs1⟩ : ∃ x, (nextB L 4 (.inl k)).2 = x := ⟨_, rfl⟩
            rw [hl]
            rw [hs1] at hR
            have m0 := hM.cell 0
            have p0 := hM.frozen 0
            have hml := hM.lt
            simp at m0
            obtain ⟨wm1, hwm⟩ : ∃ x, x = wb.setCell ⟨q, 0, none⟩ (.int .i64 l) := ⟨_, rfl⟩
            have hcs : Chg (fun k => k = q) wb wm1 := by rw [hwm]; ((repeat (first | with_reducible exact Chg.refl _ _ | with_reducible assumption | with_reducible refine Chg.drewN ?_ _ | with_reducible refine Chg.drew ?_ | with_reducible refine Chg.alloc ?_ _ | with_reducible refine Chg.setCell ?_ (by first | (simp; done) | (simp; omega) | (intro h; simp at h; omega)) _)))
            have hM2 : Blk wm1 q 49 #[.int .i64 l, .int .i64 0, .int .i64 0, .string ⟨#[]⟩, .string ⟨#[]⟩] := by
              rw [hwm]
              simpa using hM.set_ 0 (.int .i64 l)
            have HLx := Lib.hid (show Lst docC wm1 (.slice aa j2 acap) acc2 from HL2.out.chg hcs fun b hb e => by have := HLQ.out b hb; omega)
            have HDx := Lib.hid (show Lst i64C wm1 (.slice da j dcap) dr from HD2.out.chg hcs fun b hb e => by have := HDQ.out b hb; omega)
            have HOx := Lib.hid (hO.chg hcs (by omega))
            have HEx := Lib.hid (hE.chg hcs (by omega))
            have HRx := Lib.hid (rdb_chg hR hcs (by omega))
            have HCx := Lib.hid (hC.trans hcs fun k hk h => by have := HG.out; omega)
            have HMx := Lib.hid hM2
            have HWx := Lib.hid hwm
            have HQ0 := Lib.hid (And.intro hl hs1)
            clear HL2 HD2 hO hE hM hC hR hcs hM2 hwm hl hs1 hc1 HO HE HR HC HL HD HM
            have HO := HOx
            have HE := HEx
            have HR := HRx
            have HC := HCx
            have HL := HLx
            have HD := HDx
            have HM := HMx
            clear HOx HEx HRx HCx HLx HDx HMx
            go_upto_region 19 with fail
            rw [← HWx.out]
            clear HWx m0 p0 hml
            go_wp2_with fail
            refine (HNUM.out s1 wm1 HR.out).mono ?_
            rintro e wb ⟨rfl, hR, hc1⟩
            have HL2 := Lib.hid (show Lst docC wb (.slice aa j2 acap) acc2 from HL.out.chg hc1 fun b hb e => by
              obtain ⟨cs, hB⟩ := HL.out.typed hb
              obtain ⟨cs', hR'⟩ := rdb_blk HR.out
              exact hB.ne_ hR' (by decide) e)
            have HD2 := Lib.hid (show Lst i64C wb (.slice da j dcap) dr from HD.out.chg hc1 fun b hb e => by
              obtain ⟨cs, hB⟩ := HD.out.typed hb
              obtain ⟨cs', hR'⟩ := rdb_blk HR.out
              exact hB.ne_ hR' (by decide) e)
            have hO := HO.out.chg hc1 (by omega)
            have hE := HE.out.chg hc1 (by omega)
            have hM := HM.out.chg hc1 (by omega)
            have hC := HC.out.trans hc1 fun k hk h => by have := HG.out; omega
            obtain ⟨f, hf⟩ : ∃ x, (nextN L s1).1 = x := ⟨_, rfl⟩
            obtain ⟨s2, hs2⟩ : ∃ x, (nextN L s1).2 = x := ⟨_, rfl⟩
            rw [hf]
            rw [hs2] at hR
            have m0 := hM.cell 1
            have p0 := hM.frozen 1
            have hml := hM.lt
            simp at m0
            obtain ⟨wm2, hwm⟩ : ∃ x, x = wb.setCell ⟨q, 1, none⟩ (.int .i64 f) := ⟨_, rfl⟩
            have hcs : Chg (fun k => k = q) wb wm2 := by rw [hwm]; ((repeat (first | with_reducible exact Chg.refl _ _ | with_reducible assumption | with_reducible refine Chg.drewN ?_ _ | with_reducible refine Chg.drew ?_ | with_reducible refine Chg.alloc ?_ _ | with_reducible refine Chg.setCell ?_ (by first | (simp; done) | (simp; omega) | (intro h; simp at h; omega)) _)))
            have hM2 : Blk wm2 q 49 #[.int .i64 l, .int .i64 f, .int .i64 0, .string ⟨#[]⟩, .string ⟨#[]⟩] := by
              rw [hwm]
              simpa using hM.set_ 1 (.int .i64 f)
            have HLx := Lib.hid (show Lst docC wm2 (.slice aa j2 acap) acc2 from HL2.out.chg hcs fun b hb e => by have := HLQ.out b hb; omega)
            have HDx := Lib.hid (show Lst i64C wm2 (.slice da j dcap) dr from HD2.out.chg hcs fun b hb e => by have := HDQ.out b hb; omega)
            have HOx := Lib.hid (hO.chg hcs (by omega))
            have HEx := Lib.hid (hE.chg hcs (by omega))
            have HRx := Lib.hid (rdb_chg hR hcs (by omega))
            have HCx := Lib.hid (hC.trans hcs fun k hk h => by have := HG.out; omega)
            have HMx := Lib.hid hM2
            have HWx := Lib.hid hwm
            have HQ1 := Lib.hid (And.intro hf hs2)
            clear HL2 HD2 hO hE hM hC hR hcs hM2 hwm hf hs2 hc1 HO HE HR HC HL HD HM
            have HO := HOx
            have HE := HEx
            have HR := HRx
            have HC := HCx
            have HL := HLx
            have HD := HDx
            have HM := HMx
            clear HOx HEx HRx HCx HLx HDx HMx
            go_upto_region 20 with fail
            rw [← HWx.out]
            clear HWx m0 p0 hml
            go_wp2_with fail
            refine (HNUM.out s2 wm2 HR.out).mono ?_
            rintro e wb ⟨rfl, hR, hc1⟩
            have HL2 := Lib.hid (show Lst docC wb (.slice aa j2 acap) acc2 from HL.out.chg hc1 fun b hb e => by
              obtain ⟨cs, hB⟩ := HL.out.typed hb
              obtain ⟨cs', hR'⟩ := rdb_blk HR.out
              exact hB.ne_ hR' (by decide) e)
            have HD2 := Lib.hid (show Lst i64C wb (.slice da j dcap) dr from HD.out.chg hc1 fun b hb e => by
              obtain ⟨cs, hB⟩ := HD.out.typed hb
              obtain ⟨cs', hR'⟩ := rdb_blk HR.out
              exact hB.ne_ hR' (by decide) e)
            have hO := HO.out.chg hc1 (by omega)
            have hE := HE.out.chg hc1 (by omega)
            have hM := HM.out.chg hc1 (by omega)
            have hC := HC.out.trans hc1 fun k hk h => by have := HG.out; omega
            obtain ⟨z, hz⟩ : ∃ x, (nextN L s2).1 = x := ⟨_, rfl⟩
            obtain ⟨s3, hs3⟩ : ∃ x, (nextN L s2).2 = x := ⟨_, rfl⟩
            rw [hz]
            rw [hs3] at hR
            have m0 := hM.cell 2
            have p0 := hM.frozen 2
            have hml := hM.lt
            simp at m0
            obtain ⟨wm3, hwm⟩ : ∃ x, x = wb.setCell ⟨q, 2, none⟩ (.int .i64 z) := ⟨_, rfl⟩
            have hcs : Chg (fun k => k = q) wb wm3 := by rw [hwm]; ((repeat (first | with_reducible exact Chg.refl _ _ | with_reducible assumption | with_reducible refine Chg.drewN ?_ _ | with_reducible refine Chg.drew ?_ | with_reducible refine Chg.alloc ?_ _ | with_reducible refine Chg.setCell ?_ (by first | (simp; done) | (simp; omega) | (intro h; simp at h; omega)) _)))
            have hM2 : Blk wm3 q 49 #[.int .i64 l, .int .i64 f, .int .i64 z, .string ⟨#[]⟩, .string ⟨#[]⟩] := by
              rw [hwm]
              simpa using hM.set_ 2 (.int .i64 z)
            have HLx := Lib.hid (show Lst docC wm3 (.slice aa j2 acap) acc2 from HL2.out.chg hcs fun b hb e => by have := HLQ.out b hb; omega)
            have HDx := Lib.hid (show Lst i64C wm3 (.slice da j dcap) dr from HD2.out.chg hcs fun b hb e => by have := HDQ.out b hb; omega)
            have HOx := Lib.hid (hO.chg hcs (by omega))
            have HEx := Lib.hid (hE.chg hcs (by omega))
            have HRx := Lib.hid (rdb_chg hR hcs (by omega))
            have HCx := Lib.hid (hC.trans hcs fun k hk h => by have := HG.out; omega)
            have HMx := Lib.hid hM2
            have HWx := Lib.hid hwm
            have HQ2 := Lib.hid (And.intro hz hs3)
            clear HL2 HD2 hO hE hM hC hR hcs hM2 hwm hz hs3 hc1 HO HE HR HC HL HD HM
            have HO := HOx
            have HE := HEx
            have HR := HRx
            have HC := HCx
            have HL := HLx
            have HD := HDx
            have HM := HMx
            clear HOx HEx HRx HCx HLx HDx HMx
            go_upto_region 21 with fail
            rw [← HWx.out]
            clear HWx m0 p0 hml
            go_wp2_with fail
            refine (HTXT.out s3 wm3 HR.out).mono ?_
            rintro e wb ⟨rfl, hR, hc1⟩
            have HL2 := Lib.hid (show Lst docC wb (.slice aa j2 acap) acc2 from HL.out.chg hc1 fun b hb e => by
              obtain ⟨cs, hB⟩ := HL.out.typed hb
              obtain ⟨cs', hR'⟩ := rdb_blk HR.out
              exact hB.ne_ hR' (by decide) e)
            have HD2 := Lib.hid (show Lst i64C wb (.slice da j dcap) dr from HD.out.chg hc1 fun b hb e => by
              obtain ⟨cs, hB⟩ := HD.out.typed hb
              obtain ⟨cs', hR'⟩ := rdb_blk HR.out
              exact hB.ne_ hR' (by decide) e)
            have hO := HO.out.chg hc1 (by omega)
            have hE := HE.out.chg hc1 (by omega)
            have hM := HM.out.chg hc1 (by omega)
            have hC := HC.out.trans hc1 fun k hk h => by have := HG.out; omega
            obtain ⟨lo, hlo⟩ : ∃ x, (nextT L s3).1 = x := ⟨_, rfl⟩
            obtain ⟨s4, hs4⟩ : ∃ x, (nextT L s3).2 = x := ⟨_, rfl⟩
            rw [hlo]
            rw [hs4] at hR
            have m0 := hM.cell 3
            have p0 := hM.frozen 3
            have hml := hM.lt
            simp at m0
            obtain ⟨wm4, hwm⟩ : ∃ x, x = wb.setCell ⟨q, 3, none⟩ (.string ⟨lo.toArray⟩) := ⟨_, rfl⟩
            have hcs : Chg (fun k => k = q) wb wm4 := by rw [hwm]; ((repeat (first | with_reducible exact Chg.refl _ _ | with_reducible assumption | with_reducible refine Chg.drewN ?_ _ | with_reducible refine Chg.drew ?_ | with_reducible refine Chg.alloc ?_ _ | with_reducible refine Chg.setCell ?_ (by first | (simp; done) | (simp; omega) | (intro h; simp at h; omega)) _)))
            have hM2 : Blk wm4 q 49 #[.int .i64 l, .int .i64 f, .int .i64 z, .string ⟨lo.toArray⟩, .string ⟨#[]⟩] := by
              rw [hwm]
              simpa using hM.set_ 3 (.string ⟨lo.toArray⟩)
            have HLx := Lib.hid (show Lst docC wm4 (.slice aa j2 acap) acc2 from HL2.out.chg hcs fun b hb e => by have := HLQ.out b hb; omega)
            have HDx := Lib.hid (show Lst i64C wm4 (.slice da j dcap) dr from HD2.out.chg hcs fun b hb e => by have := HDQ.out b hb; omega)
            have HOx := Lib.hid (hO.chg hcs (by omega))
            have HEx := Lib.hid (hE.chg hcs (by omega))
            have HRx := Lib.hid (rdb_chg hR hcs (by omega))
            have HCx := Lib.hid (hC.trans hcs fun k hk h => by have := HG.out; omega)
            have HMx := Lib.hid hM2
            have HWx := Lib.hid hwm
            have HQ3 := Lib.hid (And.intro hlo hs4)
            clear HL2 HD2 hO hE hM hC hR hcs hM2 hwm hlo hs4 hc1 HO HE HR HC HL HD HM
            have HO := HOx
            have HE := HEx
            have HR := HRx
            have HC := HCx
            have HL := HLx
            have HD := HDx
            have HM := HMx
            clear HOx HEx HRx HCx HLx HDx HMx
            go_upto_region 22 with fail
            rw [← HWx.out]
            clear HWx m0 p0 hml
            go_wp2_with fail
            refine (HTXT.out s4 wm4 HR.out).mono ?_
            rintro e wb ⟨rfl, hR, hc1⟩
            have HL2 := Lib.hid (show Lst docC wb (.slice aa j2 acap) acc2 from HL.out.chg hc1 fun b hb e => by
              obtain ⟨cs, hB⟩ := HL.out.typed hb
              obtain ⟨cs', hR'⟩ := rdb_blk HR.out
              exact hB.ne_ hR' (by decide) e)
            have HD2 := Lib.hid (show Lst i64C wb (.slice da j dcap) dr from HD.out.chg hc1 fun b hb e => by
              obtain ⟨cs, hB⟩ := HD.out.typed hb
              obtain ⟨cs', hR'⟩ := rdb_blk HR.out
              exact hB.ne_ hR' (by decide) e)
            have hO := HO.out.chg hc1 (by omega)
            have hE := HE.out.chg hc1 (by omega)
            have hM := HM.out.chg hc1 (by omega)
            have hC := HC.out.trans hc1 fun k hk h => by have := HG.out; omega
            obtain ⟨hi, hhi⟩ : ∃ x, (nextT L s4).1 = x := ⟨_, rfl⟩
            obtain ⟨s5, hs5⟩ : ∃ x, (nextT L s4).2 = x := ⟨_, rfl⟩
            rw [hhi]
            rw [hs5] at hR
            have m0 := hM.cell 4
            have p0 := hM.frozen 4
            have hml := hM.lt
            simp at m0
            obtain ⟨wm5, hwm⟩ : ∃ x, x = wb.setCell ⟨q, 4, none⟩ (.string ⟨hi.toArray⟩) := ⟨_, rfl⟩
            have hcs : Chg (fun k => k = q) wb wm5 := by rw [hwm]; ((repeat (first | with_reducible exact Chg.refl _ _ | with_reducible assumption | with_reducible refine Chg.drewN ?_ _ | with_reducible refine Chg.drew ?_ | with_reducible refine Chg.alloc ?_ _ | with_reducible refine Chg.setCell ?_ (by first | (simp; done) | (simp; omega) | (intro h; simp at h; omega)) _)))
            have hM2 : Blk wm5 q 49 #[.int .i64 l, .int .i64 f, .int .i64 z, .string ⟨lo.toArray⟩, .string ⟨hi.toArray⟩] := by
              rw [hwm]
              simpa using hM.set_ 4 (.string ⟨hi.toArray⟩)
            have HLx := Lib.hid (show Lst docC wm5 (.slice aa j2 acap) acc2 from HL2.out.chg hcs fun b hb e => by have := HLQ.out b hb; omega)
            have HDx := Lib.hid (show Lst i64C wm5 (.slice da j dcap) dr from HD2.out.chg hcs fun b hb e => by have := HDQ.out b hb; omega)
            have HOx := Lib.hid (hO.chg hcs (by omega))
            have HEx := Lib.hid (hE.chg hcs (by omega))
            have HRx := Lib.hid (rdb_chg hR hcs (by omega))
            have HCx := Lib.hid (hC.trans hcs fun k hk h => by have := HG.out; omega)
            have HMx := Lib.hid hM2
            have HWx := Lib.hid hwm
            have HQ4 := Lib.hid (And.intro hhi hs5)
            clear HL2 HD2 hO hE hM hC hR hcs hM2 hwm hhi hs5 hc1 HO HE HR HC HL HD HM
            have HO := HOx
            have HE := HEx
            have HR := HRx
            have HC := HCx
            have HL := HLx
            have HD := HDx
            have HM := HMx
            clear HOx HEx HRx HCx HLx HDx HMx
            go_upto_region 23 with fail
            rw [← HWx.out]
            clear HWx m0 p0 hml
            have hpl : pl5 L (.inl k) = (⟨l, ⟨f, z, ⟨lo.toArray⟩, ⟨hi.toArray⟩⟩⟩, s5) := by
              unfold pl5
              rw [HQ0.out.1, HQ0.out.2, HQ1.out.1, HQ1.out.2, HQ2.out.1, HQ2.out.2, HQ3.out.1, HQ3.out.2, HQ4.out.1, HQ4.out.2]
            have ht2 : Tie L (fun k => ed7 L log next seq dr (M - (j2 + 1)) k (acc2 ++ [⟨l, ⟨f, z, ⟨lo.toArray⟩, ⟨hi.toArray⟩⟩⟩])) s5 := by
              have h1 : editV L = ed7 L log next seq dr (M - j2) k acc2 := HT.out
              have e2 : M - (j2 + 1) = m := by omega
              rw [e2]
              rw [hm, ed7, addsV_step, pl5_place, hpl] at h1
              cases s5 with
              | inl k5 => exact h1
              | inr c => exact h1
            have HT2 := Lib.hid ht2
            clear hpl ht2 HQ0 HQ1 HQ2 HQ3 HQ4 HT
            have y0 := HE.out.cell 0
            have m0 := HM.out.cell 0
            have m1 := HM.out.cell 1
            have m2 := HM.out.cell 2
            have m3 := HM.out.cell 3
            have m4 := HM.out.cell 4
            simp at y0 m0 m1 m2 m3 m4
            go_wp2_with (at_builtin; refine wpList_lst_app docOk _ (by rfl) _ _ (by rfl) acc2 (.slice aa j2 acap) ⟨l, ⟨f, z, ⟨lo.toArray⟩, ⟨hi.toArray⟩⟩⟩ (by rfl) (HL.out.same (by ((repeat (first | exact Chg.refl _ _ | assumption | refine Chg.drewN ?_ _ | refine Chg.drew ?_ | refine Chg.alloc ?_ _ | refine Chg.setCell ?_ (by first | (simp; done) | (simp; omega) | (intro h; simp at h; omega)) _))))) wm5.heap.size (by rfl) (by omega) (Blk.new _ _ _) ?_)
            intro v' w4 hl4 hc4 hk4
            have hca : Chg (fun _ => False) wm5 (wm5.alloc (.cells #[.int .i64 l, .int .i64 f, .int .i64 z, .string ⟨lo.toArray⟩, .string ⟨hi.toArray⟩] 49)) := by ((repeat (first | exact Chg.refl _ _ | assumption | refine Chg.drewN ?_ _ | refine Chg.drew ?_ | refine Chg.alloc ?_ _ | refine Chg.setCell ?_ (by first | (simp; done) | (simp; omega) | (intro h; simp at h; omega)) _)))
            have hne : ∀ b, (Value.slice aa j2 acap).ownBlock = some b → b ≠ g ∧ b ≠ g + 1 ∧ b ≠ g + 1 + 1 := fun b hb => by
              obtain ⟨cs, hB⟩ := HL.out.typed hb
              obtain ⟨cs', hR⟩ := rdb_blk HR.out
              exact ⟨hB.ne_ HO.out (by decide), hB.ne_ hR (by decide), hB.ne_ HE.out (by decide)⟩
            have ho4 := (HO.out.chg hca (by simp)).chg hc4 fun e => (hne g e).1 rfl
            have he4 := (HE.out.chg hca (by simp)).chg hc4 fun e => (hne (g + 1 + 1) e).2.2 rfl
            have hr4 : RdB w4 (g + 1) s s5 := rdb_chg (rdb_chg HR.out hca (by simp)) hc4 fun e => (hne (g + 1) e).2.1 rfl
            have hda : Lst i64C (wm5.alloc (.cells #[.int .i64 l, .int .i64 f, .int .i64 z, .string ⟨lo.toArray⟩, .string ⟨hi.toArray⟩] 49)) (.slice da j dcap) dr := HD.out.same hca
            have hd4 : Lst i64C w4 (.slice da j dcap) dr := hda.chg hc4 fun b hb e => by
              obtain ⟨cs, hB⟩ := HD.out.typed hb
              obtain ⟨cs', hB'⟩ := HL.out.typed e
              exact hB.ne_ hB' (by decide) rfl
            have hcw4 : Chg (fun _ => False) w w4 := (HC.out.then hca).trans hc4 fun b hb e => by
              have := HOWN.out b e
              omega
            have hown4 : ∀ b, v'.ownBlock = some b → w.heap.size ≤ b := fun b hb => by
              rcases hk4 b hb with e | e
              · exact HOWN.out b e
              · have := HC.out.size; omega
            obtain ⟨va, vc, rfl, _⟩ := doc_form hl4
            have hll : (acc2 ++ [(⟨l, ⟨f, z, ⟨lo.toArray⟩, ⟨hi.toArray⟩⟩⟩ : PlaceV)]).length = j2 + 1 := by simp [hacc2]
            rw [hll] at hl4 hown4 ⊢
            clear y0 m0 m1 m2 m3 m4
            have y0 := he4.cell 0
            have f0 := he4.frozen 0
            have hel := he4.lt
            simp at y0
            obtain ⟨w5, hw5⟩ : ∃ w5, w5 = w4.setCell ⟨g + 1 + 1, 0, none⟩ (.slice va (j2 + 1) vc) := ⟨_, rfl⟩
            have he5 : Blk w5 (g + 1 + 1) 31 #[.slice va (j2 + 1) vc, .slice da j dcap, .int .i64 log, .int .i64 next, .int .i64 seq] := by
              rw [hw5]
              simpa using he4.set_ 0 (.slice va (j2 + 1) vc)
            have hc5 : Chg (fun k => k = g + 1 + 1) w4 w5 := by rw [hw5]; ((repeat (first | with_reducible exact Chg.refl _ _ | with_reducible assumption | with_reducible refine Chg.drewN ?_ _ | with_reducible refine Chg.drew ?_ | with_reducible refine Chg.alloc ?_ _ | with_reducible refine Chg.setCell ?_ (by first | (simp; done) | (simp; omega) | (intro h; simp at h; omega)) _)))
            have hl5 : Lst docC w5 (.slice va (j2 + 1) vc) (acc2 ++ [⟨l, ⟨f, z, ⟨lo.toArray⟩, ⟨hi.toArray⟩⟩⟩]) := hl4.chg hc5 fun b hb e => by
              obtain ⟨cs, hB⟩ := hl4.typed hb
              exact hB.ne_ he4 (by decide) e
            have hd5 : Lst i64C w5 (.slice da j dcap) dr := hd4.chg hc5 fun b hb e => by
              obtain ⟨cs, hB⟩ := hd4.typed hb
              exact hB.ne_ he4 (by decide) e
            have HO5 := Lib.hid (ho4.chg hc5 (by omega))
            have HE5 := Lib.hid he5
            have HL5 := Lib.hid hl5
            have HD5 := Lib.hid hd5
            have HOWN5 := Lib.hid hown4
            have HR5 := Lib.hid (rdb_chg hr4 hc5 (by omega))
            have HC5 := Lib.hid (hcw4.trans hc5 fun k hk h => by have := HG.out; omega)
            have HW5 := Lib.hid hw5
            have HLLN := Lib.hid hll
            clear he5 hl5 hd5 hown4 hr4 hcw4 hc5 hw5 ho4 he4 hl4 hd4 hda hc4 hk4 hne hca HE HO HC HR HL HD HM
            go_wp2_with fail
            rw [← HW5.out]
            exact ⟨⟨j2 + 1, s5, acc2 ++ [⟨l, ⟨f, z, ⟨lo.toArray⟩, ⟨hi.toArray⟩⟩⟩], _, by omega, by first | rfl | (simp; done), HLLN.out, HT2.out, HO5.out, HE5.out, HL5.out, HOWN5.out, HD5.out, HR5.out, HC5.out⟩, by simp [intOf]; omega⟩
          · have ways : ¬ (j2 : Int) < (M : Int) ∧ j2 = M ∧ (∃ k, st = .inl k) ∨ ∃ c, st = .inr c := by
              cases st with
              | inr c => exact .inr ⟨c, rfl⟩
              | inl k => exact .inl ⟨fun h => hgo ⟨by omega, k, rfl⟩, Classical.byContradiction fun h => hgo ⟨by omega, k, rfl⟩, k, rfl⟩
            clear hgo
            rcases ways with ⟨hlt, hjM, k, rfl⟩ | ⟨c, rfl⟩
            · -- all was read
              have hed : editV L = if k < L.length then .inr 4 else .inl ⟨acc2, dr, log, next, seq⟩ := by
                have h1 : editV L = ed7 L log next seq dr (M - j2) k acc2 := HT.out
                rw [h1, hjM, Nat.sub_self, ed7, addsV]
              rw [HLL.out] at hed
              have hrb := HR.out.2
              have z1 := hrb.cell 1
              have z2 := hrb.cell 2
              simp at z1 z2
              have o0 := HO.out.cell 0
              have o1 := HO.out.cell 1
              have o2 := HO.out.cell 2
              have o3 := HO.out.cell 3
              have o4 := HO.out.cell 4
              have p0 := HO.out.frozen 0
              have p1 := HO.out.frozen 1
              have p2 := HO.out.frozen 2
              have p3 := HO.out.frozen 3
              have p4 := HO.out.frozen 4
              have hol := HO.out.lt
              simp at o0 o1 o2 o3 o4
              clear hrb hjM
              by_cases hk : k < s.size
              · have hlt2 : (k : Int) < (s.size : Int) := by omega
                rw [if_pos hk] at hed
                have HED := Lib.hid hed
                clear hed hk
                go_wp2_with fail
                obtain ⟨wz, hwz⟩ : ∃ wz, wz = ((((wq.setCell ⟨g, 0, none⟩ (.slice none 0 0)).setCell ⟨g, 1, none⟩ (.slice none 0 0)).setCell ⟨g, 2, none⟩ (.int .i64 0)).setCell ⟨g, 3, none⟩ (.int .i64 0)).setCell ⟨g, 4, none⟩ (.int .i64 0) := ⟨_, rfl⟩
                have hbz : Blk wz g 31 #[.slice none 0 0, .slice none 0 0, .int .i64 0, .int .i64 0, .int .i64 0] := by
                  rw [hwz]
                  simpa using ((((HO.out.set_ 0 (.slice none 0 0)).set_ 1 (.slice none 0 0)).set_ 2 (.int .i64 0)).set_ 3 (.int .i64 0)).set_ 4 (.int .i64 0)
                have hcz : Chg (fun _ => False) w wz := by rw [hwz]; have := HC.out; have hg' := HG.out; ((repeat (first | with_reducible exact Chg.refl _ _ | with_reducible assumption | with_reducible refine Chg.drewN ?_ _ | with_reducible refine Chg.drew ?_ | with_reducible refine Chg.alloc ?_ _ | with_reducible refine Chg.setCell ?_ (by first | (simp; done) | (simp; omega) | (intro h; simp at h; omega)) _)))
                rw [← hwz]
                clear o0 o1 o2 o3 o4
                have o0 := hbz.cell 0
                have o1 := hbz.cell 1
                have o2 := hbz.cell 2
                have o3 := hbz.cell 3
                have o4 := hbz.cell 4
                simp at o0 o1 o2 o3 o4
                exact bodyPost_ret (v := .tuple #[.agg #[.slice none 0 0, .slice none 0 0, .int .i64 0, .int .i64 0, .int .i64 0], .int .i64 4]) (by simp [results, Try.results6, go_sem, o0, o1, o2, o3, o4]) rfl ⟨by unfold EditAt2; rw [HED.out]; exact ⟨by decide, rfl⟩, hcz⟩
              · have hlt2 : ¬ (k : Int) < (s.size : Int) := by omega
                rw [if_neg hk] at hed
                have HED := Lib.hid hed
                clear hed hk
                have y0 := HE.out.cell 0
                have y1 := HE.out.cell 1
                have y2 := HE.out.cell 2
                have y3 := HE.out.cell 3
                have y4 := HE.out.cell 4
                have f0 := HE.out.frozen 0
                have f1 := HE.out.frozen 1
                have f2 := HE.out.frozen 2
                have f3 := HE.out.frozen 3
                have f4 := HE.out.frozen 4
                have hel := HE.out.lt
                simp at y0 y1 y2 y3 y4
                go_wp2_with fail
                obtain ⟨wz, hwz⟩ : ∃ wz, wz = ((((wq.setCell ⟨g, 0, none⟩ (.slice aa j2 acap)).setCell ⟨g, 1, none⟩ (.slice da j dcap)).setCell ⟨g, 2, none⟩ (.int .i64 log)).setCell ⟨g, 3, none⟩ (.int .i64 next)).setCell ⟨g, 4, none⟩ (.int .i64 seq) := ⟨_, rfl⟩
                have hbz : Blk wz g 31 #[.slice aa j2 acap, .slice da j dcap, .int .i64 log, .int .i64 next, .int .i64 seq] := by
                  rw [hwz]
                  simpa using ((((HO.out.set_ 0 (.slice aa j2 acap)).set_ 1 (.slice da j dcap)).set_ 2 (.int .i64 log)).set_ 3 (.int .i64 next)).set_ 4 (.int .i64 seq)
                have hcs : Chg (fun k => k = g) wq wz := by rw [hwz]; ((repeat (first | with_reducible exact Chg.refl _ _ | with_reducible assumption | with_reducible refine Chg.drewN ?_ _ | with_reducible refine Chg.drew ?_ | with_reducible refine Chg.alloc ?_ _ | with_reducible refine Chg.setCell ?_ (by first | (simp; done) | (simp; omega) | (intro h; simp at h; omega)) _)))
                have hcz : Chg (fun _ => False) w wz := HC.out.trans hcs fun k hk h => by have := HG.out; omega
                have hlz : Lst docC wz (.slice aa j2 acap) acc2 := HL.out.chg hcs fun b hb e => by
                  obtain ⟨cs, hB⟩ := HL.out.typed hb
                  exact hB.ne_ HO.out (by decide) e
                have hdz : Lst i64C wz (.slice da j dcap) dr := HD.out.chg hcs fun b hb e => by
                  obtain ⟨cs, hB⟩ := HD.out.typed hb
                  exact hB.ne_ HO.out (by decide) e
                rw [← hwz]
                clear o0 o1 o2 o3 o4
                have o0 := hbz.cell 0
                have o1 := hbz.cell 1
                have o2 := hbz.cell 2
                have o3 := hbz.cell 3
                have o4 := hbz.cell 4
                simp at o0 o1 o2 o3 o4
                exact bodyPost_ret (v := .tuple #[.agg #[.slice aa j2 acap, .slice da j dcap, .int .i64 log, .int .i64 next, .int .i64 seq], .int .i64 0]) (by simp [results, Try.results6, go_sem, o0, o1, o2, o3, o4]) rfl ⟨by unfold EditAt2; rw [HED.out]; exact ⟨_, _, rfl, hlz, hdz⟩, hcz⟩
            · -- an error stands
              have hed : editV L = .inr c := HT.out
              obtain ⟨hc0, k, hrb⟩ := HR.out
              have z2 := hrb.cell 2
              simp at z2
              have o0 := HO.out.cell 0
              have o1 := HO.out.cell 1
              have o2 := HO.out.cell 2
              have o3 := HO.out.cell 3
              have o4 := HO.out.cell 4
              have p0 := HO.out.frozen 0
              have p1 := HO.out.frozen 1
              have p2 := HO.out.frozen 2
              have p3 := HO.out.frozen 3
              have p4 := HO.out.frozen 4
              have hol := HO.out.lt
              simp at o0 o1 o2 o3 o4
              have hq : (c != 0) = true := by simpa using hc0
              have hq2 : (c == 0) = false := by simpa using hc0
              have HED := Lib.hid hed
              have HC0 := Lib.hid hc0
              have HRB := Lib.hid hrb
              clear hed hc0 hrb
              by_cases hlt : (j2 : Int) < (M : Int)
              · skip
                go_upto_region 25 with fail
                go_region
                all_goals
                  go_wp2_with fail
                  obtain ⟨wz, hwz⟩ : ∃ wz, wz = (((((wq.setCell ⟨g, 0, none⟩ (.slice none 0 0)).setCell ⟨g, 1, none⟩ (.slice none 0 0)).setCell ⟨g, 2, none⟩ (.int .i64 0)).setCell ⟨g, 3, none⟩ (.int .i64 0)).setCell ⟨g, 4, none⟩ (.int .i64 0)).drew := ⟨_, rfl⟩
                  have hbz : Blk wz g 31 #[.slice none 0 0, .slice none 0 0, .int .i64 0, .int .i64 0, .int .i64 0] := by
                    rw [hwz]
                    refine Blk.drew ?_
                    simpa using ((((HO.out.set_ 0 (.slice none 0 0)).set_ 1 (.slice none 0 0)).set_ 2 (.int .i64 0)).set_ 3 (.int .i64 0)).set_ 4 (.int .i64 0)
                  have hcz : Chg (fun _ => False) w wz := by rw [hwz]; have := HC.out; have hg' := HG.out; ((repeat (first | with_reducible exact Chg.refl _ _ | with_reducible assumption | with_reducible refine Chg.drewN ?_ _ | with_reducible refine Chg.drew ?_ | with_reducible refine Chg.alloc ?_ _ | with_reducible refine Chg.setCell ?_ (by first | (simp; done) | (simp; omega) | (intro h; simp at h; omega)) _)))
                  rw [← hwz]
                  clear o0 o1 o2 o3 o4
                  have o0 := hbz.cell 0
                  have o1 := hbz.cell 1
                  have o2 := hbz.cell 2
                  have o3 := hbz.cell 3
                  have o4 := hbz.cell 4
                  simp at o0 o1 o2 o3 o4
                  exact bodyPost_ret (v := .tuple #[.agg #[.slice none 0 0, .slice none 0 0, .int .i64 0, .int .i64 0, .int .i64 0], .int .i64 c]) (by simp [results, Try.results6, go_sem, o0, o1, o2, o3, o4]) rfl ⟨by unfold EditAt2; rw [HED.out]; exact ⟨HC0.out, rfl⟩, hcz⟩
              · skip
                go_upto_region 25 with fail
                go_region
                all_goals
                  go_wp2_with fail
                  obtain ⟨wz, hwz⟩ : ∃ wz, wz = (((((wq.setCell ⟨g, 0, none⟩ (.slice none 0 0)).setCell ⟨g, 1, none⟩ (.slice none 0 0)).setCell ⟨g, 2, none⟩ (.int .i64 0)).setCell ⟨g, 3, none⟩ (.int .i64 0)).setCell ⟨g, 4, none⟩ (.int .i64 0)).drew := ⟨_, rfl⟩
                  have hbz : Blk wz g 31 #[.slice none 0 0, .slice none 0 0, .int .i64 0, .int .i64 0, .int .i64 0] := by
                    rw [hwz]
                    refine Blk.drew ?_
                    simpa using ((((HO.out.set_ 0 (.slice none 0 0)).set_ 1 (.slice none 0 0)).set_ 2 (.int .i64 0)).set_ 3 (.int .i64 0)).set_ 4 (.int .i64 0)
                  have hcz : Chg (fun _ => False) w wz := by rw [hwz]; have := HC.out; have hg' := HG.out; ((repeat (first | with_reducible exact Chg.refl _ _ | with_reducible assumption | with_reducible refine Chg.drewN ?_ _ | with_reducible refine Chg.drew ?_ | with_reducible refine Chg.alloc ?_ _ | with_reducible refine Chg.setCell ?_ (by first | (simp; done) | (simp; omega) | (intro h; simp at h; omega)) _)))
                  rw [← hwz]
                  clear o0 o1 o2 o3 o4
                  have o0 := hbz.cell 0
                  have o1 := hbz.cell 1
                  have o2 := hbz.cell 2
                  have o3 := hbz.cell 3
                  have o4 := hbz.cell 4
                  simp at o0 o1 o2 o3 o4
                  exact bodyPost_ret (v := .tuple #[.agg #[.slice none 0 0, .slice none 0 0, .int .i64 0, .int .i64 0, .int .i64 0], .int .i64 c]) (by simp [results, Try.results6, go_sem, o0, o1, o2, o3, o4]) rfl ⟨by unfold EditAt2; rw [HED.out]; exact ⟨HC0.out, rfl⟩, hcz⟩
      · skip
        go_wp2_with fail
        refine (HBEL.out st 4097 wq HR.out).mono ?_
        rintro e wb ⟨rfl, hR, hc1⟩
        have t7 := tie_below (most := 4097) (ed' := fun n j => ed7 L log next seq acc n.toNat j []) (fun k => by rw [ed6]; cases belowV L k 4097 <;> rfl) HT6.out
        have hmb := nextB_in (L := L) (most := 4097) (by decide) st
        have HD := Lib.hid (show Lst i64C wb (.slice da j dcap) acc from HL.out.chg hc1 fun b hb e => by
          obtain ⟨cs, hB⟩ := HL.out.typed hb
          obtain ⟨cs', hR'⟩ := rdb_blk HR.out
          exact hB.ne_ hR' (by decide) e)
        have HO2 := Lib.hid (HO.out.chg hc1 (by omega))
        have HE2 := Lib.hid (HE.out.chg hc1 (by omega))
        have HC2 := Lib.hid (HC.out.trans hc1 fun k hk h => by have := HG.out; omega)
        have HR2 := Lib.hid hR
        clear HO HE HC HR HL hc1 hR
        have HO := HO2
        have HE := HE2
        have HC := HC2
        have HR := HR2
        clear HO2 HE2 HC2 HR2
        obtain ⟨n, hn⟩ : ∃ x, (nextB L 4097 st).1 = x := ⟨_, rfl⟩
        obtain ⟨st6, hst6⟩ : ∃ x, (nextB L 4097 st).2 = x := ⟨_, rfl⟩
        rw [hn] at t7 hmb ⊢
        rw [hst6] at t7 HR
        clear hn hst6 HT HT6
        obtain ⟨hm0, hmb⟩ := hmb
        obtain ⟨M, rfl⟩ : ∃ M : Nat, n = (M : Int) := ⟨n.toNat, by omega⟩
        rw [Int.toNat_natCast] at t7
        obtain ⟨dr, hdr⟩ : ∃ dr, dr = acc := ⟨_, rfl⟩
        rw [← hdr] at t7 HD
        clear HOWN
        go_wp2_with fail
        go_loopw [10] (fun i wr => ∃ (j2 : Nat) (st : Nat ⊕ Int) (acc : List PlaceV) (av : Value), j2 ≤ M ∧ i = .int .i64 (j2 : Int) ∧ acc.length = j2 ∧ Tie L (fun k => ed7 L log next seq dr (M - j2) k acc) st ∧ Blk wr g 31 #[.slice none 0 0, .slice none 0 0, .int .i64 0, .int .i64 0, .int .i64 0] ∧ Blk wr (g + 1 + 1) 31 #[av, .slice da j dcap, .int .i64 log, .int .i64 next, .int .i64 seq] ∧ Lst docC wr av acc ∧ (∀ b, av.ownBlock = some b → w.heap.size ≤ b) ∧ Lst i64C wr (.slice da j dcap) dr ∧ RdB wr (g + 1) s st ∧ Chg (fun _ => False) w wr) (fun i _ => M - (intOf i).toNat)
        case atStart => exact ⟨0, st6, [], _, by omega, rfl, rfl, t7, HO.out, HE.out, Lst.nil _ _, by simp [Value.ownBlock], HD.out, HR.out, HC.out⟩
        case round =>
          obtain ⟨j2, st, acc2, av, hj2, rfl, hacc2, ht, ho, he, hl, hown, hd, hr, hcr⟩ := hrel
          obtain ⟨aa, acap, rfl, _⟩ := doc_form hl
          rw [hacc2] at he hl hown
          clear HO HE HR HC HD t7
          have HO := Lib.hid ho
          have HE := Lib.hid he
          have HR := Lib.hid hr
          have HC := Lib.hid hcr
          have HT := Lib.hid ht
          have HL := Lib.hid hl
          have HOWN := Lib.hid hown
          have HD := Lib.hid hd
          obtain ⟨wq, rfl⟩ : ∃ wq : World, wq = wr := ⟨_, rfl⟩
          clear ho he hr hcr ht hl hown hd
          by_cases hgo : j2 < M ∧ ∃ k, st = .inl k
          · obtain ⟨hjM, k, rfl⟩ := hgo
            have hlt : (j2 : Int) < (M : Int) := by omega
            have hrb := HR.out.2
            have z2 := hrb.cell 2
            simp at z2
            obtain ⟨m, hm⟩ : ∃ m, M - j2 = m + 1 := ⟨M - j2 - 1, by omega⟩
            clear hrb
            obtain ⟨q, hq⟩ : ∃ q, wq.heap.size = q := ⟨_, rfl⟩
            have hqE : g + 1 + 1 < q := by rw [← hq]; exact HE.out.lt
            have hlq : ∀ b, (Value.slice aa j2 acap).ownBlock = some b → b < q := fun b hb => by rw [← hq]; exact HL.out.lt hb
            have hdq : ∀ b, (Value.slice da j dcap).ownBlock = some b → b < q := fun b hb => by rw [← hq]; exact HD.out.lt hb
            have HLQ := Lib.hid hlq
            have HDQ := Lib.hid hdq
            obtain ⟨wm0, hwm0⟩ : ∃ x, x = wq.alloc (.cells #[.int .i64 0, .int .i64 0, .int .i64 0, .string ⟨#[]⟩, .string ⟨#[]⟩] 49) := ⟨_, rfl⟩
            have hcm : Chg (fun _ => False) wq wm0 := by rw [hwm0]; ((repeat (first | exact Chg.refl _ _ | assumption | refine Chg.drewN ?_ _ | refine Chg.drew ?_ | refine Chg.alloc ?_ _ | refine Chg.setCell ?_ (by first | (simp; done) | (simp; omega) | (intro h; simp at h; omega)) _)))
            have HM := Lib.hid (show Blk wm0 q 49 #[.int .i64 0, .int .i64 0, .int .i64 0, .string ⟨#[]⟩, .string ⟨#[]⟩] by rw [hwm0, ← hq]; exact Blk.new _ _ _)
            have HWM0 := Lib.hid hwm0
            have HO2 := Lib.hid (HO.out.chg hcm (by simp))
            have HE2 := Lib.hid (HE.out.chg hcm (by simp))
            have HR2 := Lib.hid (rdb_chg HR.out hcm (by simp))
            have HC2 := Lib.hid (HC.out.then hcm)
            have HL2 := Lib.hid (HL.out.same hcm)
            have HD2 := Lib.hid (HD.out.same hcm)
            clear hwm0 hcm hlq hdq HO HE HR HC HL HD
            have HO := HO2
            have HE := HE2
            have HR := HR2
            have HC := HC2
            have HL := HL2
            have HD := HD2
            clear HO2 HE2 HR2 HC2 HL2 HD2
            go_upto_region 17 with fail
            rw [← HWM0.out]
            clear HWM0
            go_wp2_with fail
            refine (HBEL.out (.inl k) 4 wm0 HR.out).mono ?_
            rintro e wb ⟨rfl, hR, hc1⟩
            have HL2 := Lib.hid (show Lst docC wb (.slice aa j2 acap) acc2 from HL.out.chg hc1 fun b hb e => by
              obtain ⟨cs, hB⟩ := HL.out.typed hb
              obtain ⟨cs', hR'⟩ := rdb_blk HR.out
              exact hB.ne_ hR' (by decide) e)
            have HD2 := Lib.hid (show Lst i64C wb (.slice da j dcap) dr from HD.out.chg hc1 fun b hb e => by
              obtain ⟨cs, hB⟩ := HD.out.typed hb
              obtain ⟨cs', hR'⟩ := rdb_blk HR.out
              exact hB.ne_ hR' (by decide) e)
            have hO := HO.out.chg hc1 (by omega)
            have hE := HE.out.chg hc1 (by omega)
            have hM := HM.out.chg hc1 (by omega)
            have hC := HC.out.trans hc1 fun k hk h => by have := HG.out; omega
            obtain ⟨l, hl⟩ : ∃ x, (nextB L 4 (.inl k)).1 = x := ⟨_, rfl⟩
            obtain ⟨s1, hs1⟩ : ∃ x, (nextB L 4 (.inl k)).2 = x := ⟨_, rfl⟩
            rw [hl]
            rw [hs1] at hR
            have m0 := hM.cell 0
            have p0 := hM.frozen 0
            have hml := hM.lt
            simp at m0
            obtain ⟨wm1, hwm⟩ : ∃ x, x = wb.setCell ⟨q, 0, none⟩ (.int .i64 l) := ⟨_, rfl⟩
            have hcs : Chg (fun k => k = q) wb wm1 := by rw [hwm]; ((repeat (first | with_reducible exact Chg.refl _ _ | with_reducible assumption | with_reducible refine Chg.drewN ?_ _ | with_reducible refine Chg.drew ?_ | with_reducible refine Chg.alloc ?_ _ | with_reducible refine Chg.setCell ?_ (by first | (simp; done) | (simp; omega) | (intro h; simp at h; omega)) _)))
            have hM2 : Blk wm1 q 49 #[.int .i64 l, .int .i64 0, .int .i64 0, .string ⟨#[]⟩, .string ⟨#[]⟩] := by
              rw [hwm]
              simpa using hM.set_ 0 (.int .i64 l)
            have HLx := Lib.hid (show Lst docC wm1 (.slice aa j2 acap) acc2 from HL2.out.chg hcs fun b hb e => by have := HLQ.out b hb; omega)
            have HDx := Lib.hid (show Lst i64C wm1 (.slice da j dcap) dr from HD2.out.chg hcs fun b hb e => by have := HDQ.out b hb; omega)
            have HOx := Lib.hid (hO.chg hcs (by omega))
            have HEx := Lib.hid (hE.chg hcs (by omega))
            have HRx := Lib.hid (rdb_chg hR hcs (by omega))
            have HCx := Lib.hid (hC.trans hcs fun k hk h => by have := HG.out; omega)
            have HMx := Lib.hid hM2
            have HWx := Lib.hid hwm
            have HQ0 := Lib.hid (And.intro hl hs1)
            clear HL2 HD2 hO hE hM hC hR hcs hM2 hwm hl hs1 hc1 HO HE HR HC HL HD HM
            have HO := HOx
            have HE := HEx
            have HR := HRx
            have HC := HCx
            have HL := HLx
            have HD := HDx
            have HM := HMx
            clear HOx HEx HRx HCx HLx HDx HMx
            go_upto_region 19 with fail
            rw [← HWx.out]
            clear HWx m0 p0 hml
            go_wp2_with fail
            refine (HNUM.out s1 wm1 HR.out).mono ?_
            rintro e wb ⟨rfl, hR, hc1⟩
            have HL2 := Lib.hid (show Lst docC wb (.slice aa j2 acap) acc2 from HL.out.chg hc1 fun b hb e => by
              obtain ⟨cs, hB⟩ := HL.out.typed hb
              obtain ⟨cs', hR'⟩ := rdb_blk HR.out
              exact hB.ne_ hR' (by decide) e)
            have HD2 := Lib.hid (show Lst i64C wb (.slice da j dcap) dr from HD.out.chg hc1 fun b hb e => by
              obtain ⟨cs, hB⟩ := HD.out.typed hb
              obtain ⟨cs', hR'⟩ := rdb_blk HR.out
              exact hB.ne_ hR' (by decide) e)
            have hO := HO.out.chg hc1 (by omega)
            have hE := HE.out.chg hc1 (by omega)
            have hM := HM.out.chg hc1 (by omega)
            have hC := HC.out.trans hc1 fun k hk h => by have := HG.out; omega
            obtain ⟨f, hf⟩ : ∃ x, (nextN L s1).1 = x := ⟨_, rfl⟩
            obtain ⟨s2, hs2⟩ : ∃ x, (nextN L s1).2 = x := ⟨_, rfl⟩
            rw [hf]
            rw [hs2] at hR
            have m0 := hM.cell 1
            have p0 := hM.frozen 1
            have hml := hM.lt
            simp at m0
            obtain ⟨wm2, hwm⟩ : ∃ x, x = wb.setCell ⟨q, 1, none⟩ (.int .i64 f) := ⟨_, rfl⟩
            have hcs : Chg (fun k => k = q) wb wm2 := by rw [hwm]; ((repeat (first | with_reducible exact Chg.refl _ _ | with_reducible assumption | with_reducible refine Chg.drewN ?_ _ | with_reducible refine Chg.drew ?_ | with_reducible refine Chg.alloc ?_ _ | with_reducible refine Chg.setCell ?_ (by first | (simp; done) | (simp; omega) | (intro h; simp at h; omega)) _)))
            have hM2 : Blk wm2 q 49 #[.int .i64 l, .int .i64 f, .int .i64 0, .string ⟨#[]⟩, .string ⟨#[]⟩] := by
              rw [hwm]
              simpa using hM.set_ 1 (.int .i64 f)
            have HLx := Lib.hid (show Lst docC wm2 (.slice aa j2 acap) acc2 from HL2.out.chg hcs fun b hb e => by have := HLQ.out b hb; omega)
            have HDx := Lib.hid (show Lst i64C wm2 (.slice da j dcap) dr from HD2.out.chg hcs fun b hb e => by have := HDQ.out b hb; omega)
            have HOx := Lib.hid (hO.chg hcs (by omega))
            have HEx := Lib.hid (hE.chg hcs (by omega))
            have HRx := Lib.hid (rdb_chg hR hcs (by omega))
            have HCx := Lib.hid (hC.trans hcs fun k hk h => by have := HG.out; omega)
            have HMx := Lib.hid hM2
            have HWx := Lib.hid hwm
            have HQ1 := Lib.hid (And.intro hf hs2)
            clear HL2 HD2 hO hE hM hC hR hcs hM2 hwm hf hs2 hc1 HO HE HR HC HL HD HM
            have HO := HOx
            have HE := HEx
            have HR := HRx
            have HC := HCx
            have HL := HLx
            have HD := HDx
            have HM := HMx
            clear HOx HEx HRx HCx HLx HDx HMx
            go_upto_region 20 with fail
            rw [← HWx.out]
            clear HWx m0 p0 hml
            go_wp2_with fail
            refine (HNUM.out s2 wm2 HR.out).mono ?_
            rintro e wb ⟨rfl, hR, hc1⟩
            have HL2 := Lib.hid (show Lst docC wb (.slice aa j2 acap) acc2 from HL.out.chg hc1 fun b hb e => by
              obtain ⟨cs, hB⟩ := HL.out.typed hb
              obtain ⟨cs', hR'⟩ := rdb_blk HR.out
              exact hB.ne_ hR' (by decide) e)
            have HD2 := Lib.hid (show Lst i64C wb (.slice da j dcap) dr from HD.out.chg hc1 fun b hb e => by
              obtain ⟨cs, hB⟩ := HD.out.typed hb
              obtain ⟨cs', hR'⟩ := rdb_blk HR.out
              exact hB.ne_ hR' (by decide) e)
            have hO := HO.out.chg hc1 (by omega)
            have hE := HE.out.chg hc1 (by omega)
            have hM := HM.out.chg hc1 (by omega)
            have hC := HC.out.trans hc1 fun k hk h => by have := HG.out; omega
            obtain ⟨z, hz⟩ : ∃ x, (nextN L s2).1 = x := ⟨_, rfl⟩
            obtain ⟨s3, hs3⟩ : ∃ x, (nextN L s2).2 = x := ⟨_, rfl⟩
            rw [hz]
            rw [hs3] at hR
            have m0 := hM.cell 2
            have p0 := hM.frozen 2
            have hml := hM.lt
            simp at m0
            obtain ⟨wm3, hwm⟩ : ∃ x, x = wb.setCell ⟨q, 2, none⟩ (.int .i64 z) := ⟨_, rfl⟩
            have hcs : Chg (fun k => k = q) wb wm3 := by rw [hwm]; ((repeat (first | with_reducible exact Chg.refl _ _ | with_reducible assumption | with_reducible refine Chg.drewN ?_ _ | with_reducible refine Chg.drew ?_ | with_reducible refine Chg.alloc ?_ _ | with_reducible refine Chg.setCell ?_ (by first | (simp; done) | (simp; omega) | (intro h; simp at h; omega)) _)))
            have hM2 : Blk wm3 q 49 #[.int .i64 l, .int .i64 f, .int .i64 z, .string ⟨#[]⟩, .string ⟨#[]⟩] := by
              rw [hwm]
              simpa using hM.set_ 2 (.int .i64 z)
            have HLx := Lib.hid (show Lst docC wm3 (.slice aa j2 acap) acc2 from HL2.out.chg hcs fun b hb e => by have := HLQ.out b hb; omega)
            have HDx := Lib.hid (show Lst i64C wm3 (.slice da j dcap) dr from HD2.out.chg hcs fun b hb e => by have := HDQ.out b hb; omega)
            have HOx := Lib.hid (hO.chg hcs (by omega))
            have HEx := Lib.hid (hE.chg hcs (by omega))
            have HRx := Lib.hid (rdb_chg hR hcs (by omega))
            have HCx := Lib.hid (hC.trans hcs fun k hk h => by have := HG.out; omega)
            have HMx := Lib.hid hM2
            have HWx := Lib.hid hwm
            have HQ2 := Lib.hid (And.intro hz hs3)
            clear HL2 HD2 hO hE hM hC hR hcs hM2 hwm hz hs3 hc1 HO HE HR HC HL HD HM
            have HO := HOx
            have HE := HEx
            have HR := HRx
            have HC := HCx
            have HL := HLx
            have HD := HDx
            have HM := HMx
            clear HOx HEx HRx HCx HLx HDx HMx
            go_upto_region 21 with fail
            rw [← HWx.out]
            clear HWx m0 p0 hml
            go_wp2_with fail
            refine (HTXT.out s3 wm3 HR.out).mono ?_
            rintro e wb ⟨rfl, hR, hc1⟩
            have HL2 := Lib.hid (show Lst docC wb (.slice aa j2 acap) acc2 from HL.out.chg hc1 fun b hb e => by
              obtain ⟨cs, hB⟩ := HL.out.typed hb
              obtain ⟨cs', hR'⟩ := rdb_blk HR.out
              exact hB.ne_ hR' (by decide) e)
            have HD2 := Lib.hid (show Lst i64C wb (.slice da j dcap) dr from HD.out.chg hc1 fun b hb e => by
              obtain ⟨cs, hB⟩ := HD.out.typed hb
              obtain ⟨cs', hR'⟩ := rdb_blk HR.out
              exact hB.ne_ hR' (by decide) e)
            have hO := HO.out.chg hc1 (by omega)
            have hE := HE.out.chg hc1 (by omega)
            have hM := HM.out.chg hc1 (by omega)
            have hC := HC.out.trans hc1 fun k hk h => by have := HG.out; omega
            obtain ⟨lo, hlo⟩ : ∃ x, (nextT L s3).1 = x := ⟨_, rfl⟩
            obtain ⟨s4, hs4⟩ : ∃ x, (nextT L s3).2 = x := ⟨_, rfl⟩
            rw [hlo]
            rw [hs4] at hR
            have m0 := hM.cell 3
            have p0 := hM.frozen 3
            have hml := hM.lt
            simp at m0
            obtain ⟨wm4, hwm⟩ : ∃ x, x = wb.setCell ⟨q, 3, none⟩ (.string ⟨lo.toArray⟩) := ⟨_, rfl⟩
            have hcs : Chg (fun k => k = q) wb wm4 := by rw [hwm]; ((repeat (first | with_reducible exact Chg.refl _ _ | with_reducible assumption | with_reducible refine Chg.drewN ?_ _ | with_reducible refine Chg.drew ?_ | with_reducible refine Chg.alloc ?_ _ | with_reducible refine Chg.setCell ?_ (by first | (simp; done) | (simp; omega) | (intro h; simp at h; omega)) _)))
            have hM2 : Blk wm4 q 49 #[.int .i64 l, .int .i64 f, .int .i64 z, .string ⟨lo.toArray⟩, .string ⟨#[]⟩] := by
              rw [hwm]
              simpa using hM.set_ 3 (.string ⟨lo.toArray⟩)
            have HLx := Lib.hid (show Lst docC wm4 (.slice aa j2 acap) acc2 from HL2.out.chg hcs fun b hb e => by have := HLQ.out b hb; omega)
            have HDx := Lib.hid (show Lst i64C wm4 (.slice da j dcap) dr from HD2.out.chg hcs fun b hb e => by have := HDQ.out b hb; omega)
            have HOx := Lib.hid (hO.chg hcs (by omega))
            have HEx := Lib.hid (hE.chg hcs (by omega))
            have HRx := Lib.hid (rdb_chg hR hcs (by omega))
            have HCx := Lib.hid (hC.trans hcs fun k hk h => by have := HG.out; omega)
            have HMx := Lib.hid hM2
            have HWx := Lib.hid hwm
            have HQ3 := Lib.hid (And.intro hlo hs4)
            clear HL2 HD2 hO hE hM hC hR hcs hM2 hwm hlo hs4 hc1 HO HE HR HC HL HD HM
            have HO := HOx
            have HE := HEx
            have HR := HRx
            have HC := HCx
            have HL := HLx
            have HD := HDx
            have HM := HMx
            clear HOx HEx HRx HCx HLx HDx HMx
            go_upto_region 22 with fail
            rw [← HWx.out]
            clear HWx m0 p0 hml
            go_wp2_with fail
            refine (HTXT.out s4 wm4 HR.out).mono ?_
            rintro e wb ⟨rfl, hR, hc1⟩
            have HL2 := Lib.hid (show Lst docC wb (.slice aa j2 acap) acc2 from HL.out.chg hc1 fun b hb e => by
              obtain ⟨cs, hB⟩ := HL.out.typed hb
              obtain ⟨cs', hR'⟩ := rdb_blk HR.out
              exact hB.ne_ hR' (by decide) e)
            have HD2 := Lib.hid (show Lst i64C wb (.slice da j dcap) dr from HD.out.chg hc1 fun b hb e => by
              obtain ⟨cs, hB⟩ := HD.out.typed hb
              obtain ⟨cs', hR'⟩ := rdb_blk HR.out
              exact hB.ne_ hR' (by decide) e)
            have hO := HO.out.chg hc1 (by omega)
            have hE := HE.out.chg hc1 (by omega)
            have hM := HM.out.chg hc1 (by omega)
            have hC := HC.out.trans hc1 fun k hk h => by have := HG.out; omega
            obtain ⟨hi, hhi⟩ : ∃ x, (nextT L s4).1 = x := ⟨_, rfl⟩
            obtain ⟨s5, hs5⟩ : ∃ x, (nextT L s4).2 = x := ⟨_, rfl⟩
            rw [hhi]
            rw [hs5] at hR
            have m0 := hM.cell 4
            have p0 := hM.frozen 4
            have hml := hM.lt
            simp at m0
            obtain ⟨wm5, hwm⟩ : ∃ x, x = wb.setCell ⟨q, 4, none⟩ (.string ⟨hi.toArray⟩) := ⟨_, rfl⟩
            have hcs : Chg (fun k => k = q) wb wm5 := by rw [hwm]; ((repeat (first | with_reducible exact Chg.refl _ _ | with_reducible assumption | with_reducible refine Chg.drewN ?_ _ | with_reducible refine Chg.drew ?_ | with_reducible refine Chg.alloc ?_ _ | with_reducible refine Chg.setCell ?_ (by first | (simp; done) | (simp; omega) | (intro h; simp at h; omega)) _)))
            have hM2 : Blk wm5 q 49 #[.int .i64 l, .int .i64 f, .int .i64 z, .string ⟨lo.toArray⟩, .string ⟨hi.toArray⟩] := by
              rw [hwm]
              simpa using hM.set_ 4 (.string ⟨hi.toArray⟩)
            have HLx := Lib.hid (show Lst docC wm5 (.slice aa j2 acap) acc2 from HL2.out.chg hcs fun b hb e => by have := HLQ.out b hb; omega)
            have HDx := Lib.hid (show Lst i64C wm5 (.slice da j dcap) dr from HD2.out.chg hcs fun b hb e => by have := HDQ.out b hb; omega)
            have HOx := Lib.hid (hO.chg hcs (by omega))
            have HEx := Lib.hid (hE.chg hcs (by omega))
            have HRx := Lib.hid (rdb_chg hR hcs (by omega))
            have HCx := Lib.hid (hC.trans hcs fun k hk h => by have := HG.out; omega)
            have HMx := Lib.hid hM2
            have HWx := Lib.hid hwm
            have HQ4 := Lib.hid (And.intro hhi hs5)
            clear HL2 HD2 hO hE hM hC hR hcs hM2 hwm hhi hs5 hc1 HO HE HR HC HL HD HM
            have HO := HOx
            have HE := HEx
            have HR := HRx
            have HC := HCx
            have HL := HLx
            have HD := HDx
            have HM := HMx
            clear HOx HEx HRx HCx HLx HDx HMx
            go_upto_region 23 with fail
            rw [← HWx.out]
            clear HWx m0 p0 hml
            have hpl : pl5 L (.inl k) = (⟨l, ⟨f, z, ⟨lo.toArray⟩, ⟨hi.toArray⟩⟩⟩, s5) := by
              unfold pl5
              rw [HQ0.out.1, HQ0.out.2, HQ1.out.1, HQ1.out.2, HQ2.out.1, HQ2.out.2, HQ3.out.1, HQ3.out.2, HQ4.out.1, HQ4.out.2]
            have ht2 : Tie L (fun k => ed7 L log next seq dr (M - (j2 + 1)) k (acc2 ++ [⟨l, ⟨f, z, ⟨lo.toArray⟩, ⟨hi.toArray⟩⟩⟩])) s5 := by
              have h1 : editV L = ed7 L log next seq dr (M - j2) k acc2 := HT.out
              have e2 : M - (j2 + 1) = m := by omega
              rw [e2]
              rw [hm, ed7, addsV_step, pl5_place, hpl] at h1
              cases s5 with
              | inl k5 => exact h1
              | inr c => exact h1
            have HT2 := Lib.hid ht2
            clear hpl ht2 HQ0 HQ1 HQ2 HQ3 HQ4 HT
            have y0 := HE.out.cell 0
            have m0 := HM.out.cell 0
            have m1 := HM.out.cell 1
            have m2 := HM.out.cell 2
            have m3 := HM.out.cell 3
            have m4 := HM.out.cell 4
            simp at y0 m0 m1 m2 m3 m4
            go_wp2_with (at_builtin; refine wpList_lst_app docOk _ (by rfl) _ _ (by rfl) acc2 (.slice aa j2 acap) ⟨l, ⟨f, z, ⟨lo.toArray⟩, ⟨hi.toArray⟩⟩⟩ (by rfl) (HL.out.same (by ((repeat (first | exact Chg.refl _ _ | assumption | refine Chg.drewN ?_ _ | refine Chg.drew ?_ | refine Chg.alloc ?_ _ | refine Chg.setCell ?_ (by first | (simp; done) | (simp; omega) | (intro h; simp at h; omega)) _))))) wm5.heap.size (by rfl) (by omega) (Blk.new _ _ _) ?_)
            intro v' w4 hl4 hc4 hk4
            have hca : Chg (fun _ => False) wm5 (wm5.alloc (.cells #[.int .i64 l, .int .i64 f, .int .i64 z, .string ⟨lo.toArray⟩, .string ⟨hi.toArray⟩] 49)) := by ((repeat (first | exact Chg.refl _ _ | assumption | refine Chg.drewN ?_ _ | refine Chg.drew ?_ | refine Chg.alloc ?_ _ | refine Chg.setCell ?_ (by first | (simp; done) | (simp; omega) | (intro h; simp at h; omega)) _)))
            have hne : ∀ b, (Value.slice aa j2 acap).ownBlock = some b → b ≠ g ∧ b ≠ g + 1 ∧ b ≠ g + 1 + 1 := fun b hb => by
              obtain ⟨cs, hB⟩ := HL.out.typed hb
              obtain ⟨cs', hR⟩ := rdb_blk HR.out
              exact ⟨hB.ne_ HO.out (by decide), hB.ne_ hR (by decide), hB.ne_ HE.out (by decide)⟩
            have ho4 := (HO.out.chg hca (by simp)).chg hc4 fun e => (hne g e).1 rfl
            have he4 := (HE.out.chg hca (by simp)).chg hc4 fun e => (hne (g + 1 + 1) e).2.2 rfl
            have hr4 : RdB w4 (g + 1) s s5 := rdb_chg (rdb_chg HR.out hca (by simp)) hc4 fun e => (hne (g + 1) e).2.1 rfl
            have hda : Lst i64C (wm5.alloc (.cells #[.int .i64 l, .int .i64 f, .int .i64 z, .string ⟨lo.toArray⟩, .string ⟨hi.toArray⟩] 49)) (.slice da j dcap) dr := HD.out.same hca
            have hd4 : Lst i64C w4 (.slice da j dcap) dr := hda.chg hc4 fun b hb e => by
              obtain ⟨cs, hB⟩ := HD.out.typed hb
              obtain ⟨cs', hB'⟩ := HL.out.typed e
              exact hB.ne_ hB' (by decide) rfl
            have hcw4 : Chg (fun _ => False) w w4 := (HC.out.then hca).trans hc4 fun b hb e => by
              have := HOWN.out b e
              omega
            have hown4 : ∀ b, v'.ownBlock = some b → w.heap.size ≤ b := fun b hb => by
              rcases hk4 b hb with e | e
              · exact HOWN.out b e
              · have := HC.out.size; omega
            obtain ⟨va, vc, rfl, _⟩ := doc_form hl4
            have hll : (acc2 ++ [(⟨l, ⟨f, z, ⟨lo.toArray⟩, ⟨hi.toArray⟩⟩⟩ : PlaceV)]).length = j2 + 1 := by simp [hacc2]
            rw [hll] at hl4 hown4 ⊢
            clear y0 m0 m1 m2 m3 m4
            have y0 := he4.cell 0
            have f0 := he4.frozen 0
            have hel := he4.lt
            simp at y0
            obtain ⟨w5, hw5⟩ : ∃ w5, w5 = w4.setCell ⟨g + 1 + 1, 0, none⟩ (.slice va (j2 + 1) vc) := ⟨_, rfl⟩
            have he5 : Blk w5 (g + 1 + 1) 31 #[.slice va (j2 + 1) vc, .slice da j dcap, .int .i64 log, .int .i64 next, .int .i64 seq] := by
              rw [hw5]
              simpa using he4.set_ 0 (.slice va (j2 + 1) vc)
            have hc5 : Chg (fun k => k = g + 1 + 1) w4 w5 := by rw [hw5]; ((repeat (first | with_reducible exact Chg.refl _ _ | with_reducible assumption | with_reducible refine Chg.drewN ?_ _ | with_reducible refine Chg.drew ?_ | with_reducible refine Chg.alloc ?_ _ | with_reducible refine Chg.setCell ?_ (by first | (simp; done) | (simp; omega) | (intro h; simp at h; omega)) _)))
            have hl5 : Lst docC w5 (.slice va (j2 + 1) vc) (acc2 ++ [⟨l, ⟨f, z, ⟨lo.toArray⟩, ⟨hi.toArray⟩⟩⟩]) := hl4.chg hc5 fun b hb e => by
              obtain ⟨cs, hB⟩ := hl4.typed hb
              exact hB.ne_ he4 (by decide) e
            have hd5 : Lst i64C w5 (.slice da j dcap) dr := hd4.chg hc5 fun b hb e => by
              obtain ⟨cs, hB⟩ := hd4.typed hb
              exact hB.ne_ he4 (by decide) e
            have HO5 := Lib.hid (ho4.chg hc5 (by omega))
            have HE5 := Lib.hid he5
            have HL5 := Lib.hid hl5
            have HD5 := Lib.hid hd5
            have HOWN5 := Lib.hid hown4
            have HR5 := Lib.hid (rdb_chg hr4 hc5 (by omega))
            have HC5 := Lib.hid (hcw4.trans hc5 fun k hk h => by have := HG.out; omega)
            have HW5 := Lib.hid hw5
            have HLLN := Lib.hid hll
            clear he5 hl5 hd5 hown4 hr4 hcw4 hc5 hw5 ho4 he4 hl4 hd4 hda hc4 hk4 hne hca HE HO HC HR HL HD HM
            go_wp2_with fail
            rw [← HW5.out]
            exact ⟨⟨j2 + 1, s5, acc2 ++ [⟨l, ⟨f, z, ⟨lo.toArray⟩, ⟨hi.toArray⟩⟩⟩], _, by omega, by first | rfl | (simp; done), HLLN.out, HT2.out, HO5.out, HE5.out, HL5.out, HOWN5.out, HD5.out, HR5.out, HC5.out⟩, by simp [intOf]; omega⟩
          · have ways : ¬ (j2 : Int) < (M : Int) ∧ j2 = M ∧ (∃ k, st = .inl k) ∨ ∃ c, st = .inr c := by
              cases st with
              | inr c => exact .inr ⟨c, rfl⟩
              | inl k => exact .inl ⟨fun h => hgo ⟨by omega, k, rfl⟩, Classical.byContradiction fun h => hgo ⟨by omega, k, rfl⟩, k, rfl⟩
            clear hgo
            rcases ways with ⟨hlt, hjM, k, rfl⟩ | ⟨c, rfl⟩
            · -- all was read
              have hed : editV L = if k < L.length then .inr 4 else .inl ⟨acc2, dr, log, next, seq⟩ := by
                have h1 : editV L = ed7 L log next seq dr (M - j2) k acc2 := HT.out
                rw [h1, hjM, Nat.sub_self, ed7, addsV]
              rw [HLL.out] at hed
              have hrb := HR.out.2
              have z1 := hrb.cell 1
              have z2 := hrb.cell 2
              simp at z1 z2
              have o0 := HO.out.cell 0
              have o1 := HO.out.cell 1
              have o2 := HO.out.cell 2
              have o3 := HO.out.cell 3
              have o4 := HO.out.cell 4
              have p0 := HO.out.frozen 0
              have p1 := HO.out.frozen 1
              have p2 := HO.out.frozen 2
              have p3 := HO.out.frozen 3
              have p4 := HO.out.frozen 4
              have hol := HO.out.lt
              simp at o0 o1 o2 o3 o4
              clear hrb hjM
              by_cases hk : k < s.size
              · have hlt2 : (k : Int) < (s.size : Int) := by omega
                rw [if_pos hk] at hed
                have HED := Lib.hid hed
                clear hed hk
                go_wp2_with fail
                obtain ⟨wz, hwz⟩ : ∃ wz, wz = ((((wq.setCell ⟨g, 0, none⟩ (.slice none 0 0)).setCell ⟨g, 1, none⟩ (.slice none 0 0)).setCell ⟨g, 2, none⟩ (.int .i64 0)).setCell ⟨g, 3, none⟩ (.int .i64 0)).setCell ⟨g, 4, none⟩ (.int .i64 0) := ⟨_, rfl⟩
                have hbz : Blk wz g 31 #[.slice none 0 0, .slice none 0 0, .int .i64 0, .int .i64 0, .int .i64 0] := by
                  rw [hwz]
                  simpa using ((((HO.out.set_ 0 (.slice none 0 0)).set_ 1 (.slice none 0 0)).set_ 2 (.int .i64 0)).set_ 3 (.int .i64 0)).set_ 4 (.int .i64 0)
                have hcz : Chg (fun _ => False) w wz := by rw [hwz]; have := HC.out; have hg' := HG.out; ((repeat (first | with_reducible exact Chg.refl _ _ | with_reducible assumption | with_reducible refine Chg.drewN ?_ _ | with_reducible refine Chg.drew ?_ | with_reducible refine Chg.alloc ?_ _ | with_reducible refine Chg.setCell ?_ (by first | (simp; done) | (simp; omega) | (intro h; simp at h; omega)) _)))
                rw [← hwz]
                clear o0 o1 o2 o3 o4
                have o0 := hbz.cell 0
                have o1 := hbz.cell 1
                have o2 := hbz.cell 2
                have o3 := hbz.cell 3
                have o4 := hbz.cell 4
                simp at o0 o1 o2 o3 o4
                exact bodyPost_ret (v := .tuple #[.agg #[.slice none 0 0, .slice none 0 0, .int .i64 0, .int .i64 0, .int .i64 0], .int .i64 4]) (by simp [results, Try.results6, go_sem, o0, o1, o2, o3, o4]) rfl ⟨by unfold EditAt2; rw [HED.out]; exact ⟨by decide, rfl⟩, hcz⟩
              · have hlt2 : ¬ (k : Int) < (s.size : Int) := by omega
                rw [if_neg hk] at hed
                have HED := Lib.hid hed
                clear hed hk
                have y0 := HE.out.cell 0
                have y1 := HE.out.cell 1
                have y2 := HE.out.cell 2
                have y3 := HE.out.cell 3
                have y4 := HE.out.cell 4
                have f0 := HE.out.frozen 0
                have f1 := HE.out.frozen 1
                have f2 := HE.out.frozen 2
                have f3 := HE.out.frozen 3
                have f4 := HE.out.frozen 4
                have hel := HE.out.lt
                simp at y0 y1 y2 y3 y4
                go_wp2_with fail
                obtain ⟨wz, hwz⟩ : ∃ wz, wz = ((((wq.setCell ⟨g, 0, none⟩ (.slice aa j2 acap)).setCell ⟨g, 1, none⟩ (.slice da j dcap)).setCell ⟨g, 2, none⟩ (.int .i64 log)).setCell ⟨g, 3, none⟩ (.int .i64 next)).setCell ⟨g, 4, none⟩ (.int .i64 seq) := ⟨_, rfl⟩
                have hbz : Blk wz g 31 #[.slice aa j2 acap, .slice da j dcap, .int .i64 log, .int .i64 next, .int .i64 seq] := by
                  rw [hwz]
                  simpa using ((((HO.out.set_ 0 (.slice aa j2 acap)).set_ 1 (.slice da j dcap)).set_ 2 (.int .i64 log)).set_ 3 (.int .i64 next)).set_ 4 (.int .i64 seq)
                have hcs : Chg (fun k => k = g) wq wz := by rw [hwz]; ((repeat (first | with_reducible exact Chg.refl _ _ | with_reducible assumption | with_reducible refine Chg.drewN ?_ _ | with_reducible refine Chg.drew ?_ | with_reducible refine Chg.alloc ?_ _ | with_reducible refine Chg.setCell ?_ (by first | (simp; done) | (simp; omega) | (intro h; simp at h; omega)) _)))
                have hcz : Chg (fun _ => False) w wz := HC.out.trans hcs fun k hk h => by have := HG.out; omega
                have hlz : Lst docC wz (.slice aa j2 acap) acc2 := HL.out.chg hcs fun b hb e => by
                  obtain ⟨cs, hB⟩ := HL.out.typed hb
                  exact hB.ne_ HO.out (by decide) e
                have hdz : Lst i64C wz (.slice da j dcap) dr := HD.out.chg hcs fun b hb e => by
                  obtain ⟨cs, hB⟩ := HD.out.typed hb
                  exact hB.ne_ HO.out (by decide) e
                rw [← hwz]
                clear o0 o1 o2 o3 o4
                have o0 := hbz.cell 0
                have o1 := hbz.cell 1
                have o2 := hbz.cell 2
                have o3 := hbz.cell 3
                have o4 := hbz.cell 4
                simp at o0 o1 o2 o3 o4
                exact bodyPost_ret (v := .tuple #[.agg #[.slice aa j2 acap, .slice da j dcap, .int .i64 log, .int .i64 next, .int .i64 seq], .int .i64 0]) (by simp [results, Try.results6, go_sem, o0, o1, o2, o3, o4]) rfl ⟨by unfold EditAt2; rw [HED.out]; exact ⟨_, _, rfl, hlz, hdz⟩, hcz⟩
            · -- an error stands
              have hed : editV L = .inr c := HT.out
              obtain ⟨hc0, k, hrb⟩ := HR.out
              have z2 := hrb.cell 2
              simp at z2
              have o0 := HO.out.cell 0
              have o1 := HO.out.cell 1
              have o2 := HO.out.cell 2
              have o3 := HO.out.cell 3
              have o4 := HO.out.cell 4
              have p0 := HO.out.frozen 0
              have p1 := HO.out.frozen 1
              have p2 := HO.out.frozen 2
              have p3 := HO.out.frozen 3
              have p4 := HO.out.frozen 4
              have hol := HO.out.lt
              simp at o0 o1 o2 o3 o4
              have hq : (c != 0) = true := by simpa using hc0
              have hq2 : (c == 0) = false := by simpa using hc0
              have HED := Lib.hid hed
              have HC0 := Lib.hid hc0
              have HRB := Lib.hid hrb
              clear hed hc0 hrb
              by_cases hlt : (j2 : Int) < (M : Int)
              · skip
                go_upto_region 25 with fail
                go_region
                all_goals
                  go_wp2_with fail
                  obtain ⟨wz, hwz⟩ : ∃ wz, wz = (((((wq.setCell ⟨g, 0, none⟩ (.slice none 0 0)).setCell ⟨g, 1, none⟩ (.slice none 0 0)).setCell ⟨g, 2, none⟩ (.int .i64 0)).setCell ⟨g, 3, none⟩ (.int .i64 0)).setCell ⟨g, 4, none⟩ (.int .i64 0)).drew := ⟨_, rfl⟩
                  have hbz : Blk wz g 31 #[.slice none 0 0, .slice none 0 0, .int .i64 0, .int .i64 0, .int .i64 0] := by
                    rw [hwz]
                    refine Blk.drew ?_
                    simpa using ((((HO.out.set_ 0 (.slice none 0 0)).set_ 1 (.slice none 0 0)).set_ 2 (.int .i64 0)).set_ 3 (.int .i64 0)).set_ 4 (.int .i64 0)
                  have hcz : Chg (fun _ => False) w wz := by rw [hwz]; have := HC.out; have hg' := HG.out; ((repeat (first | with_reducible exact Chg.refl _ _ | with_reducible assumption | with_reducible refine Chg.drewN ?_ _ | with_reducible refine Chg.drew ?_ | with_reducible refine Chg.alloc ?_ _ | with_reducible refine Chg.setCell ?_ (by first | (simp; done) | (simp; omega) | (intro h; simp at h; omega)) _)))
                  rw [← hwz]
                  clear o0 o1 o2 o3 o4
                  have o0 := hbz.cell 0
                  have o1 := hbz.cell 1
                  have o2 := hbz.cell 2
                  have o3 := hbz.cell 3
                  have o4 := hbz.cell 4
                  simp at o0 o1 o2 o3 o4
                  exact bodyPost_ret (v := .tuple #[.agg #[.slice none 0 0, .slice none 0 0, .int .i64 0, .int .i64 0, .int .i64 0], .int .i64 c]) (by simp [results, Try.results6, go_sem, o0, o1, o2, o3, o4]) rfl ⟨by unfold EditAt2; rw [HED.out]; exact ⟨HC0.out, rfl⟩, hcz⟩
              · skip
                go_upto_region 25 with fail
                go_region
                all_goals
                  go_wp2_with fail
                  obtain ⟨wz, hwz⟩ : ∃ wz, wz = (((((wq.setCell ⟨g, 0, none⟩ (.slice none 0 0)).setCell ⟨g, 1, none⟩ (.slice none 0 0)).setCell ⟨g, 2, none⟩ (.int .i64 0)).setCell ⟨g, 3, none⟩ (.int .i64 0)).setCell ⟨g, 4, none⟩ (.int .i64 0)).drew := ⟨_, rfl⟩
                  have hbz : Blk wz g 31 #[.slice none 0 0, .slice none 0 0, .int .i64 0, .int .i64 0, .int .i64 0] := by
                    rw [hwz]
                    refine Blk.drew ?_
                    simpa using ((((HO.out.set_ 0 (.slice none 0 0)).set_ 1 (.slice none 0 0)).set_ 2 (.int .i64 0)).set_ 3 (.int .i64 0)).set_ 4 (.int .i64 0)
                  have hcz : Chg (fun _ => False) w wz := by rw [hwz]; have := HC.out; have hg' := HG.out; ((repeat (first | with_reducible exact Chg.refl _ _ | with_reducible assumption | with_reducible refine Chg.drewN ?_ _ | with_reducible refine Chg.drew ?_ | with_reducible refine Chg.alloc ?_ _ | with_reducible refine Chg.setCell ?_ (by first | (simp; done) | (simp; omega) | (intro h; simp at h; omega)) _)))
                  rw [← hwz]
                  clear o0 o1 o2 o3 o4
                  have o0 := hbz.cell 0
                  have o1 := hbz.cell 1
                  have o2 := hbz.cell 2
                  have o3 := hbz.cell 3
                  have o4 := hbz.cell 4
                  simp at o0 o1 o2 o3 o4
                  exact bodyPost_ret (v := .tuple #[.agg #[.slice none 0 0, .slice none 0 0, .int .i64 0, .int .i64 0, .int .i64 0], .int .i64 c]) (by simp [results, Try.results6, go_sem, o0, o1, o2, o3, o4]) rfl ⟨by unfold EditAt2; rw [HED.out]; exact ⟨HC0.out, rfl⟩, hcz⟩
end Go.Proofs.Ytahahginmgidjaa
