/-
  The program's logs: Read.
-/
import Derived.Test.YtjfbcjmnjlehaaaGreatDoorWalH
namespace Go.Proofs.YtjfbcjmnjlehaaaGreatDoor
open Go.RowKit
set_option linter.unusedVariables false
set_option linter.unusedSimpArgs false

theorem read_size {D : DiskV} (h : DiskOk D) (n : ByteArray) : (readD D n).1.size ≤ 1048576 := by
  unfold readD
  split
  · exact Nat.zero_le _
  · split
    · rename_i i hi
      unfold dataOf
      cases hf : D.files[i]? with
      | none => exact Nat.zero_le _
      | some f => exact (h.file f (List.mem_of_getElem? hf)).2
    · exact Nat.zero_le _
def WRead (w : World) (s : ByteArray) (er : Int) (e : Ending) (w' : World) : Prop :=
  ((er ≠ 0 ∧ e = .returned (.tuple #[.slice none 0 0, .bool false, .int .i64 er])) ∨
   (er = 0 ∧ ((allF s.data.toList).2 = 4 ∨ (allF s.data.toList).2 = 6) ∧ e = .returned (.tuple #[.slice none 0 0, .bool false, .int .i64 6])) ∨
   (er = 0 ∧ (allF s.data.toList).2 ≠ 4 ∧ (allF s.data.toList).2 ≠ 6 ∧ ∃ v l, e = .returned (.tuple #[v, .bool (decide ((allF s.data.toList).2 = 3)), .int .i64 0]) ∧ Lst strC w' v l ∧ bl l = (allF s.data.toList).1)) ∧ Chg (fun _ => False) w w'
set_option maxRecDepth 100000 in
set_option maxHeartbeats 2000000 in
theorem wal_read (n : Nat) (hn : n < 10) (d : Nat) (D : DiskV) (Y : Nat → Prop) (w0 w : World) (h : DY w0 w d D Y) :
    Calls Tryz.prog 17 #[.pointer (some ⟨d, 0, none⟩), .int .i64 (n : Int)] w (WRead w (readD D (logN n)).1 (readD D (logN n)).2) := by
  have hne := logN_some n
  have hnm := wal_name n hn w
  have hsz := read_size h.ok (logN n)
  have hrd := fun W (hW : Chg (fun _ => False) w W) => y_read w0 d D Y (logN n) (logN_size n) W (h.same hW)
  obtain ⟨nm, hn'⟩ : ∃ nm, logN n = nm := ⟨_, rfl⟩
  rw [hn'] at hnm hne hrd hsz ⊢
  obtain ⟨s, hs⟩ : ∃ s, (readD D nm).1 = s := ⟨_, rfl⟩
  obtain ⟨er, her⟩ : ∃ er, (readD D nm).2 = er := ⟨_, rfl⟩
  rw [hs] at hrd hsz ⊢
  rw [her] at hrd ⊢
  have HRD := Lib.hid hrd
  have HNM := Lib.hid hnm
  clear hrd hnm hn' hs her h
  go_enter Tryz.func17, Tryz.ntmps17
  go_wp2_with fail
  refine HNM.out.mono ?_
  rintro e w1 ⟨rfl, hc1⟩
  have hr1 := HRD.out w1 hc1
  have HR1 := Lib.hid hr1
  have HC1 := Lib.hid hc1
  clear hr1 hc1
  go_wp2_with fail
  refine HR1.out.mono ?_
  rintro e w2 ⟨rfl, hc2⟩
  have HC2 := Lib.hid (HC1.out.then hc2)
  clear hc2
  by_cases he0 : er = 0
  · subst he0
    have hall := fra_all s w2 (by omega)
    have HALL := Lib.hid hall
    clear hall
    go_wp2_with fail
    refine HALL.out.mono ?_
    rintro e w3 ⟨v, l, k, rfl, hbl, hL, hll, hc3⟩
    obtain ⟨g, hg⟩ : ∃ g, (allF s.data.toList).2 = g := ⟨_, rfl⟩
    obtain ⟨la, lc, rfl, _⟩ := str_form hL
    have HBL := Lib.hid hbl
    have HL := Lib.hid hL
    have HC3 := Lib.hid (HC2.out.then hc3)
    rw [hg]
    have HG := Lib.hid hg
    clear hbl hL hc3 hg
    by_cases h4 : g = 4
    · subst h4
      go_wp2_with fail
      exact bodyPost_ret (v := .tuple #[.slice none 0 0, .bool false, .int .i64 6]) (by simp [results, Tryz.results17, go_sem]) rfl ⟨.inr (.inl ⟨rfl, .inl HG.out, rfl⟩), HC3.out⟩
    · by_cases h6 : g = 6
      · subst h6
        go_wp2_with fail
        exact bodyPost_ret (v := .tuple #[.slice none 0 0, .bool false, .int .i64 6]) (by simp [results, Tryz.results17, go_sem]) rfl ⟨.inr (.inl ⟨rfl, .inr HG.out, rfl⟩), HC3.out⟩
      · have q4 : ((g : Int) == 4) = false := by simp; omega
        have q6 : ((g : Int) == 6) = false := by simp; omega
        by_cases h3 : g = 3
        · subst h3
          go_wp2_with fail
          exact bodyPost_ret (v := .tuple #[.slice la l.length lc, .bool true, .int .i64 0]) (by simp [results, Tryz.results17, go_sem]) rfl ⟨.inr (.inr ⟨rfl, by rw [HG.out]; omega, by rw [HG.out]; omega, _, l, by rw [HG.out]; rfl, HL.out, HBL.out⟩), HC3.out⟩
        · have q3 : ((g : Int) == 3) = false := by simp; omega
          go_wp2_with fail
          exact bodyPost_ret (v := .tuple #[.slice la l.length lc, .bool false, .int .i64 0]) (by simp [results, Tryz.results17, go_sem]) rfl ⟨.inr (.inr ⟨rfl, by rw [HG.out]; exact h4, by rw [HG.out]; exact h6, _, l, by rw [HG.out]; simp [h3], HL.out, HBL.out⟩), HC3.out⟩
  · have q0 : (er != 0) = true := by simp [he0]
    have q1 : (er == 0) = false := by simp [he0]
    go_wp2_with fail
    exact bodyPost_ret (v := .tuple #[.slice none 0 0, .bool false, .int .i64 er]) (by simp [results, Tryz.results17, go_sem]) rfl ⟨.inl ⟨he0, rfl⟩, HC2.out⟩
end Go.Proofs.YtjfbcjmnjlehaaaGreatDoor
