/-
  The disk: Part.
-/
import Derived.Test.YtjfbcjmnjlehaaaGreatDoorZMg16
namespace Go.Proofs.YtjfbcjmnjlehaaaGreatDoor
open Go.RowKit
set_option linter.unusedVariables false
set_option linter.unusedSimpArgs false

/-- string(b), of bytes wherever they lie. -/
theorem run_bytes_at {w : World} {a : Option Addr} {cap : Nat} {s : ByteArray} (hr : 0 < s.size → ∃ b off, a = some ⟨b, off, none⟩ ∧ ∀ j x, (byteCells s)[j]? = some x → w.cell? ⟨b, off + j, none⟩ = some x) : (convert 60 9 (.slice a s.size cap)).run Tryz.prog w = .ok (.string s) w := by
  rw [run_convert_bytes_string w 60 9 5 a s.size cap Tryz.underlying60 Tryz.underlying5 Tryz.underlying9]
  cases ha : a with
  | none =>
    have hz : s.size = 0 := by
      rcases Nat.eq_zero_or_pos s.size with h0 | h0
      · exact h0
      · obtain ⟨b, off, hb, _⟩ := hr h0
        rw [ha] at hb; cases hb
    have he : s = ⟨#[]⟩ := by
      cases s with | mk x => cases x with | mk l => cases l with | nil => rfl | cons y ys => simp [ByteArray.size] at hz
    subst he
    rfl
  | some ad =>
    have hn : (byteCells s).length = s.size * 1 := by rw [byteCells_length, Nat.mul_one]
    have hcells : ∀ j u, (byteCells s)[j]? = some u → w.cell? (ad.add j) = some u := fun j u hu => by
      have hj : j < s.size := by have := (List.getElem?_eq_some_iff.1 hu).1; rw [byteCells_length] at this; exact this
      obtain ⟨b, off, hb, hc⟩ := hr (by omega)
      rw [ha] at hb
      cases hb
      have e : (⟨b, off, none⟩ : Addr).add j = ⟨b, off + j, none⟩ := by rw [Addr.add_lit]
      rw [e]
      exact hc j u hu
    have hl : (loadCells ad (s.size * 1)).run Tryz.prog w = .ok (byteCells s).toArray w := run_firstCells_some w 1 s.size ad s.size cap (byteCells s) hn hcells
    rw [Nat.mul_one] at hl
    have hb : byteCells s = (s.data.toList.map fun b => (b.toNat : Int)).map (Value.int .u8) := by unfold byteCells; rw [List.map_map]; rfl
    rw [hb] at hl
    rw [run_bytesToString w ad s.size cap _ hl, fold_push]
    congr 1
def partBad (s : ByteArray) (p k : Int) : Prop := p < 0 ∨ k < 0 ∨ (s.size : Int) < p ∨ (s.size : Int) - p < k
instance (s : ByteArray) (p k : Int) : Decidable (partBad s p k) := by unfold partBad; infer_instance
def partD (D : DiskV) (n : ByteArray) (p k : Int) : ByteArray × Int := if D.off then (⟨#[]⟩, 13) else match look D.names n with | some i => if partBad (dataOf D i) p k then (⟨#[]⟩, 2) else ((dataOf D i).extract p.toNat (p + k).toNat, 0) | none => (⟨#[]⟩, 10)
theorem byteCells_extract (s : ByteArray) (p q : Nat) : byteCells (s.extract p q) = ((byteCells s).drop p).take (q - p) := by
  unfold byteCells
  rw [← List.map_drop, ← List.map_take]
  congr 1
  have : (s.extract p q).data = s.data.extract p q := by simp
  rw [this, Array.toList_extract]

set_option maxRecDepth 100000 in
set_option maxHeartbeats 4000000 in
theorem disk_part (d : Nat) (ids : List Nat) (D : DiskV) (M : Nat → Prop) (n : ByteArray) (p k : Int) (hn : n.size ≤ maxLen) (hp1 : -9223372036854775808 ≤ p) (hp2 : p ≤ 9223372036854775807) (hk1 : -9223372036854775808 ≤ k) (hk2 : k ≤ 9223372036854775807) (w : World) (h : DiskAt w d ids D M) :
    Calls Tryz.prog 55 #[.pointer (some ⟨d, 0, none⟩), .string n, .int .i64 p, .int .i64 k] w fun e w' => e = .returned (.tuple #[.string (partD D n p k).1, .int .i64 (partD D n p k).2]) ∧ Chg (fun _ => False) w w' := by
  have hfind := disk_find d ids D M n hn w h
  unfold findV at hfind
  unfold partD
  cases ho : D.off with
  | true =>
    rw [ho] at hfind
    have HFI := Lib.hid hfind
    clear hfind ho h
    go_enter Tryz.func55, Tryz.ntmps55
    go_wp2_with fail
    refine HFI.out.mono ?_
    rintro e w' ⟨rfl, rfl⟩
    go_wp2_with fail
    go_ret2
    exact ⟨rfl, Chg.refl _ _⟩
  | false =>
    rw [ho] at hfind
    cases hk : look D.names n with
    | none =>
      rw [hk] at hfind
      have HFI := Lib.hid hfind
      clear hfind ho h hk
      go_enter Tryz.func55, Tryz.ntmps55
      go_wp2_with fail
      refine HFI.out.mono ?_
      rintro e w' ⟨rfl, rfl⟩
      go_wp2_with fail
      go_ret2
      exact ⟨rfl, Chg.refl _ _⟩
    | some i =>
      rw [hk] at hfind
      have hi := h.1.names.lt _ (look_some hk)
      have hsz : D.files[i].data.size ≤ 1048576 := (h.1.file _ (List.getElem_mem hi)).2
      have hdo : dataOf D i = D.files[i].data := by unfold dataOf; rw [List.getElem?_eq_getElem hi]
      simp only [Bool.false_eq_true, if_false, hdo] at hfind ⊢
      have hc : ∃ id a c, ids.getD i 0 = id ∧ w.cell? ⟨id, 0, none⟩ = some (.slice a D.files[i].data.size c) ∧ D.files[i].data.size ≤ c ∧ (a = none → D.files[i].data.size = 0 ∧ c = 0) ∧ (∀ b, a = some b → b.off = 0 ∧ b.spot = none) ∧ ∀ b, a = some b → ∀ j x, (byteCells D.files[i].data)[j]? = some x → w.cell? ⟨b.block, j, none⟩ = some x := by
        obtain ⟨_, y, hy⟩ := h
        obtain ⟨id, v, e1, e2, hb, ho⟩ := hy.files.at_ hi
        obtain ⟨a, c, hvv, hac, _, hnone, hsome⟩ := ho.form
        obtain ⟨a2, c2, hv2, _, _, hr⟩ := ho.reads
        rw [hvv] at hv2
        injection hv2 with ha2 _ hc2
        subst ha2 hc2
        refine ⟨id, a, c, by rw [List.getD_eq_getElem?_getD, e1]; rfl, by rw [← hvv]; exact hb.cell 0, hac, hnone, fun b hb => ⟨(hsome b hb).1, (hsome b hb).2.1⟩, fun b hb j x hx => ?_⟩
        have hj : j < D.files[i].data.size := by have := (List.getElem?_eq_some_iff.1 hx).1; rw [byteCells_length] at this; exact this
        obtain ⟨b2, hb2, _, _, hcell⟩ := hr (Nat.lt_of_le_of_lt (Nat.zero_le j) hj)
        rw [hb] at hb2
        cases hb2
        exact hcell j x hx
      obtain ⟨id, a, c, hid, hcell, hac, hnone, hsome, hread⟩ := hc
      rw [show fptr ids i = .pointer (some ⟨id, 0, none⟩) from by unfold fptr; rw [hid]] at hfind
      have HFI := Lib.hid hfind
      have HN := Lib.hid hnone
      have HRD := Lib.hid hread
      have HSO := Lib.hid hsome
      generalize D.files[i].data = s at *
      clear hfind ho h hk hdo hid hi hnone hread hsome
      by_cases hbad : partBad s p k
      · rw [if_pos hbad]
        unfold partBad at hbad
        go_enter Tryz.func55, Tryz.ntmps55
        go_wp2_with fail
        refine HFI.out.mono ?_
        rintro e w' ⟨rfl, rfl⟩
        by_cases b1 : p < 0
        · clear hbad
          go_wp2_with fail
          go_ret2
          exact ⟨rfl, Chg.refl _ _⟩
        · by_cases b2 : k < 0
          · clear hbad
            go_wp2_with fail
            go_ret2
            exact ⟨rfl, Chg.refl _ _⟩
          · by_cases b3 : (s.size : Int) < p
            · clear hbad
              go_wp2_with fail
              go_ret2
              exact ⟨rfl, Chg.refl _ _⟩
            · have b4 : (s.size : Int) - p < k := by omega
              clear hbad
              go_wp2_with fail
              go_ret2
              exact ⟨rfl, Chg.refl _ _⟩
      · rw [if_neg hbad]
        unfold partBad at hbad
        have b1 : 0 ≤ p := by omega
        have b2 : 0 ≤ k := by omega
        have b3 : p ≤ (s.size : Int) := by omega
        have b4 : k ≤ (s.size : Int) - p := by omega
        obtain ⟨pn, rfl⟩ := Int.eq_ofNat_of_zero_le b1
        obtain ⟨kn, rfl⟩ := Int.eq_ofNat_of_zero_le b2
        have hes : (s.extract pn (pn + kn)).size = kn := by rw [ByteArray.size_extract]; omega
        have hto : ((pn : Int) + (kn : Int)).toNat = pn + kn := by omega
        have hto2 : ((pn : Int)).toNat = pn := by omega
        rw [hto, hto2]
        have hgen : ∀ a' cap, (0 < kn → ∃ b off, a' = some ⟨b, off, none⟩ ∧ ∀ j x, (byteCells (s.extract pn (pn + kn)))[j]? = some x → w.cell? ⟨b, off + j, none⟩ = some x) → (convert 60 9 (.slice a' kn cap)).run Tryz.prog w = .ok (.string (s.extract pn (pn + kn))) w := fun a' cap hh => by
          have := run_bytes_at (w := w) (a := a') (cap := cap) (s := s.extract pn (pn + kn)) (by rw [hes]; exact hh)
          rw [hes] at this
          exact this
        have hcv1 : pn = c → (convert 60 9 (.slice a kn 0)).run Tryz.prog w = .ok (.string (s.extract pn (pn + kn))) w := fun e => hgen _ _ fun h0 => by omega
        have hcv2 : (convert 60 9 (.slice (Option.map (fun x => x.add pn) a) kn (c - pn))).run Tryz.prog w = .ok (.string (s.extract pn (pn + kn))) w := hgen _ _ fun h0 => by
          cases a with
          | none => have := HN.out rfl; omega
          | some b =>
            obtain ⟨o1, o2⟩ := HSO.out b rfl
            obtain ⟨bb, bo, bs⟩ := b
            simp only at o1 o2
            subst o1 o2
            refine ⟨bb, pn, by simp [Addr.add_lit], fun j x hx => HRD.out _ rfl (pn + j) x ?_⟩
            rw [byteCells_extract, List.getElem?_take] at hx
            split at hx
            · rw [List.getElem?_drop] at hx; exact hx
            · cases hx
        generalize s.extract pn (pn + kn) = sx at *
        clear hbad hgen hes hto hto2 HN HSO HRD
        by_cases hpc : pn = c
        · have hcv := hcv1 hpc
          clear hcv1 hcv2
          subst hpc
          go_enter Tryz.func55, Tryz.ntmps55
          go_wp2_with fail
          refine HFI.out.mono ?_
          rintro e w' ⟨rfl, rfl⟩
          go_wp2_with fail
          go_ret2
          exact ⟨rfl, Chg.refl _ _⟩
        · have hpc' : ¬ ((pn : Int) = (c : Int)) := by omega
          clear hcv1
          go_enter Tryz.func55, Tryz.ntmps55
          go_wp2_with fail
          refine HFI.out.mono ?_
          rintro e w' ⟨rfl, rfl⟩
          go_wp2_with fail
          go_ret2
          exact ⟨rfl, Chg.refl _ _⟩
end Go.Proofs.YtjfbcjmnjlehaaaGreatDoor
