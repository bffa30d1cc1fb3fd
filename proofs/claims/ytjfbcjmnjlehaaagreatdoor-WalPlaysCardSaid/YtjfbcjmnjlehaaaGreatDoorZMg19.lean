/-
  The program's logs: Read.
  The laws' fixed log.
-/
import Derived.Test.YtjfbcjmnjlehaaaGreatDoorZMg18
namespace Go.Proofs.YtjfbcjmnjlehaaaGreatDoor
open Go.RowKit
set_option linter.unusedVariables false
set_option linter.unusedSimpArgs false

theorem read_size {D : DiskV} (h : DiskOk D) (n : ByteArray) : (readD D n).1.size ≤ 1048576 := by
  unfold readD
  split
  · exact Nat.zero_le _
  · split
    · rename_i i hi
      unfold dataOf
      cases hf : D.files[i]? with
      | none => exact Nat.zero_le _
      | some f => exact (h.file f (List.mem_of_getElem? hf)).2
    · exact Nat.zero_le _
def WRead (w : World) (s : ByteArray) (er : Int) (e : Ending) (w' : World) : Prop :=
  ((er ≠ 0 ∧ e = .returned (.tuple #[.slice none 0 0, .bool false, .int .i64 er])) ∨
   (er = 0 ∧ ((allF s.data.toList).2 = 4 ∨ (allF s.data.toList).2 = 6) ∧ e = .returned (.tuple #[.slice none 0 0, .bool false, .int .i64 6])) ∨
   (er = 0 ∧ (allF s.data.toList).2 ≠ 4 ∧ (allF s.data.toList).2 ≠ 6 ∧ ∃ v l, e = .returned (.tuple #[v, .bool (decide ((allF s.data.toList).2 = 3)), .int .i64 0]) ∧ Lst strC w' v l ∧ bl l = (allF s.data.toList).1)) ∧ Chg (fun _ => False) w w'
set_option maxRecDepth 100000 in
set_option maxHeartbeats 2000000 in
theorem wal_read_g (n : Int) (nm : ByteArray) (hne : nm.toList.isEmpty = false) (hNS : nm.size ≤ maxLen) (d : Nat) (D : DiskV) (Y : Nat → Prop) (w0 w : World) (h : DY w0 w d D Y) (hNM : ∀ W, Chg (fun _ => False) w W → Calls Tryz.prog 10 #[.int .i64 n] W fun e w' => e = .returned (.string nm) ∧ Chg (fun _ => False) W w') :
    Calls Tryz.prog 17 #[.pointer (some ⟨d, 0, none⟩), .int .i64 n] w (WRead w (readD D nm).1 (readD D nm).2) := by
  have hnm := hNM w (Chg.refl _ _)
  have hsz := read_size h.ok nm
  have hrd := fun W (hW : Chg (fun _ => False) w W) => y_read w0 d D Y nm hNS W (h.same hW)
  obtain ⟨s, hs⟩ : ∃ s, (readD D nm).1 = s := ⟨_, rfl⟩
  obtain ⟨er, her⟩ : ∃ er, (readD D nm).2 = er := ⟨_, rfl⟩
  rw [hs] at hrd hsz ⊢
  rw [her] at hrd ⊢
  have HRD := Lib.hid hrd
  have HNM := Lib.hid hnm
  clear hrd hnm hNM hs her h
  go_enter Tryz.func17, Tryz.ntmps17
  go_wp2_with fail
  refine HNM.out.mono ?_
  rintro e w1 ⟨rfl, hc1⟩
  have hr1 := HRD.out w1 hc1
  have HR1 := Lib.hid hr1
  have HC1 := Lib.hid hc1
  clear hr1 hc1
  go_wp2_with fail
  refine HR1.out.mono ?_
  rintro e w2 ⟨rfl, hc2⟩
  have HC2 := Lib.hid (HC1.out.then hc2)
  clear hc2
  by_cases he0 : er = 0
  · subst he0
    have hall := fra_all s w2 (by omega)
    have HALL := Lib.hid hall
    clear hall
    go_wp2_with fail
    refine HALL.out.mono ?_
    rintro e w3 ⟨v, l, k, rfl, hbl, hL, hll, hc3⟩
    obtain ⟨g, hg⟩ : ∃ g, (allF s.data.toList).2 = g := ⟨_, rfl⟩
    obtain ⟨la, lc, rfl, _⟩ := str_form hL
    have HBL := Lib.hid hbl
    have HL := Lib.hid hL
    have HC3 := Lib.hid (HC2.out.then hc3)
    rw [hg]
    have HG := Lib.hid hg
    clear hbl hL hc3 hg
    by_cases h4 : g = 4
    · subst h4
      go_wp2_with fail
      exact bodyPost_ret (v := .tuple #[.slice none 0 0, .bool false, .int .i64 6]) (by simp [results, Tryz.results17, go_sem]) rfl ⟨.inr (.inl ⟨rfl, .inl HG.out, rfl⟩), HC3.out⟩
    · by_cases h6 : g = 6
      · subst h6
        go_wp2_with fail
        exact bodyPost_ret (v := .tuple #[.slice none 0 0, .bool false, .int .i64 6]) (by simp [results, Tryz.results17, go_sem]) rfl ⟨.inr (.inl ⟨rfl, .inr HG.out, rfl⟩), HC3.out⟩
      · have q4 : ((g : Int) == 4) = false := by simp; omega
        have q6 : ((g : Int) == 6) = false := by simp; omega
        by_cases h3 : g = 3
        · subst h3
          go_wp2_with fail
          exact bodyPost_ret (v := .tuple #[.slice la l.length lc, .bool true, .int .i64 0]) (by simp [results, Tryz.results17, go_sem]) rfl ⟨.inr (.inr ⟨rfl, by rw [HG.out]; omega, by rw [HG.out]; omega, _, l, by rw [HG.out]; rfl, HL.out, HBL.out⟩), HC3.out⟩
        · have q3 : ((g : Int) == 3) = false := by simp; omega
          go_wp2_with fail
          exact bodyPost_ret (v := .tuple #[.slice la l.length lc, .bool false, .int .i64 0]) (by simp [results, Tryz.results17, go_sem]) rfl ⟨.inr (.inr ⟨rfl, by rw [HG.out]; exact h4, by rw [HG.out]; exact h6, _, l, by rw [HG.out]; simp [h3], HL.out, HBL.out⟩), HC3.out⟩
  · have q0 : (er != 0) = true := by simp [he0]
    have q1 : (er == 0) = false := by simp [he0]
    go_wp2_with fail
    exact bodyPost_ret (v := .tuple #[.slice none 0 0, .bool false, .int .i64 er]) (by simp [results, Tryz.results17, go_sem]) rfl ⟨.inl ⟨he0, rfl⟩, HC2.out⟩
theorem wal_read (n : Nat) (hn : n < 10) (d : Nat) (D : DiskV) (Y : Nat → Prop) (w0 w : World) (h : DY w0 w d D Y) :
    Calls Tryz.prog 17 #[.pointer (some ⟨d, 0, none⟩), .int .i64 (n : Int)] w (WRead w (readD D (logN n)).1 (readD D (logN n)).2) :=
  wal_read_g (n : Int) (logN n) (logN_some n) (logN_size n) d D Y w0 w h fun W _ => wal_name n hn W
end Go.Proofs.YtjfbcjmnjlehaaaGreatDoor
namespace Go.Proofs.YtjfbcjmnjlehaaaGreatDoor
open Go.RowKit
set_option linter.unusedVariables false
set_option linter.unusedSimpArgs false

def sX : ByteArray := ⟨#[120]⟩
def jk1 : DiskV := (createW (startD 100) (logN 7)).2
def jk2 : DiskV := (appendW jk1 (logN 7) sX).2
theorem jk_res : (createW (startD 100) (logN 7)).1 = 0 ∧ (appendW jk1 (logN 7) sX).1 = 0 ∧ readD jk2 (logN 7) = (fraBA sX, 0) := by
  refine ⟨?_, ?_, ?_⟩ <;> decide +kernel
theorem jk_all : allF (fraBA sX).data.toList = ([sX.data.toList], 10) := by
  have := all_fra sX.data.toList [] (by decide)
  rw [List.append_nil, all_nil] at this
  exact this
theorem psm_create {m : Nat} {D : DiskV} (n : ByteArray) (h : PSm m D) : PSm (m + 2) (createW D n).2 := by
  unfold createW
  split
  · exact (p_bsm_create n h).up
  · exact p_bsm_syncdir (p_bsm_create n h)
theorem psm_append {m : Nat} {D : DiskV} (n b : ByteArray) (h : PSm m D) : PSm (m + 2) (appendW D n b).2 := by
  unfold appendW
  split
  · exact h.up.up
  split
  · exact (p_bsm_append n _ h).up
  · exact p_bsm_sync n (p_bsm_append n _ h)
theorem psm_remove {m : Nat} {D : DiskV} (n : ByteArray) (h : PSm m D) : PSm (m + 2) (removeW D n).2 := by
  unfold removeW
  split
  · exact (p_bsm_remove n h).up
  · exact p_bsm_syncdir (p_bsm_remove n h)
theorem bl_one {l : List ByteArray} {x : ByteArray} (h : bl l = [x.data.toList]) : l = [x] := by
  cases l with
  | nil => simp [bl] at h
  | cons b r =>
    cases r with
    | nil =>
      have h2 : b.data.toList = x.data.toList := by simpa [bl] using h
      rw [show b = x from ByteArray.ext (Array.ext' h2)]
    | cons c r => simp [bl] at h
set_option maxRecDepth 100000 in
set_option maxHeartbeats 4000000 in
theorem wal_wakes (w : World) : Calls Tryz.prog 7 #[] w fun e w' => e = .returned (.bool true) ∧ Chg (fun _ => False) w w' := by
  obtain ⟨r1, r2, r3⟩ := jk_res
  have hnew := st_new 100 (by omega) w
  have HNEW := Lib.hid hnew
  have R1 := Lib.hid r1
  have R2 := Lib.hid r2
  have R3 := Lib.hid r3
  clear hnew r1 r2 r3
  go_enter Tryz.func7, Tryz.ntmps7
  go_wp2_with fail
  refine HNEW.out.mono ?_
  rintro e w1 ⟨rfl, hd1⟩
  have hd1 := DY.of hd1
  obtain ⟨d, hd⟩ : ∃ d, w.heap.size + 2 = d := ⟨_, rfl⟩
  rw [hd] at hd1 ⊢
  have hnm := wal_name 7 (by omega) w1
  have H1 := Lib.hid hd1
  have HNM := Lib.hid hnm
  have hq : ((logN 7).toList == [108, 111, 103, 45, 48, 48, 48, 48, 48, 48, 48, 55]) = true := by rw [ByteArray.toList_eq]; rfl
  clear hd hd1 hnm
  go_wp2_with fail
  refine HNM.out.mono ?_
  rintro e w2 ⟨rfl, hc2⟩
  have hcr := wal_create 7 0 (by omega) d (startD 100) _ w w2 (p_bsm_start 100) (by omega) (H1.out.same hc2)
  have HCR := Lib.hid hcr
  clear hcr hc2
  go_wp2_with fail
  refine HCR.out.mono ?_
  rintro e w3 ⟨rfl, hd3, _⟩
  have hap := wal_append 7 2 (by omega) sX (by decide) d jk1 _ w w3 (psm_create _ (p_bsm_start 100)) (by omega) hd3
  rw [R1.out]
  have HAP := Lib.hid hap
  clear hap hd3
  go_wp2_with fail
  refine HAP.out.mono ?_
  rintro e w4 ⟨rfl, hd4, _⟩
  have hrd := wal_read 7 (by omega) d jk2 _ w w4 hd4
  have hfr := hd4.frame
  rw [R3.out] at hrd
  rw [R2.out]
  have HRD := Lib.hid hrd
  have HFR := Lib.hid hfr
  clear hrd hd4 hfr
  go_wp2_with fail
  refine HRD.out.mono ?_
  rintro e w5 ⟨hr, hc5⟩
  simp only [jk_all] at hr
  rcases hr with ⟨h, _⟩ | ⟨_, h, _⟩ | ⟨_, _, _, v, l, rfl, hL, hbl⟩
  · exact absurd rfl h
  · omega
  · have hl := bl_one hbl
    subst hl
    obtain ⟨a, cap, rfl, _, _, hr⟩ := str_form hL
    obtain ⟨g, rfl, hg, _, x0⟩ := hr [] sX [] rfl
    have HC5 := Lib.hid (HFR.out.then hc5)
    have hqx : (sX.toList == [120]) = true := by rw [ByteArray.toList_eq]; rfl
    clear hr hL hbl hc5
    simp only [List.length_nil] at x0
    go_wp2_with fail
    go_ret
    exact ⟨rfl, HC5.out⟩
end Go.Proofs.YtjfbcjmnjlehaaaGreatDoor
