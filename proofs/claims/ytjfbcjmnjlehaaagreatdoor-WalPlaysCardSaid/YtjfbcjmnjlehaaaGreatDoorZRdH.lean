/-
  The document's disk: Remove, Rename, Create.
-/
import Derived.Test.YtjfbcjmnjlehaaaGreatDoorZRdG
import Derived.Test.YtjfbcjmnjlehaaaGreatDoorZMg32
namespace Go.Proofs.YtjfbcjmnjlehaaaGreatDoor
open Go.RowKit
set_option linter.unusedVariables false
set_option linter.unusedSimpArgs false

theorem namesA_one (c : ByteArray × Option Nat) (s : StepV) : namesA (c :: s) = rename1 (c :: s) := by
  funext D
  unfold namesA rename1
  rw [if_neg (by simp)]
theorem step_rnm {w : World} {g : Nat} {cs : Array Value} (s : StepV) (h : Blk w g 104 cs) (hs : cs.toList = nmCells (ofStep s)) (hl : s.length ≤ 2) : RNm w (.slice (some ⟨g, 0, none⟩) s.length s.length) (ofStep s) := by
  have hz : cs.size = s.length * 2 := by
    rw [← Array.length_toList, hs, nmCells_len, ofStep_len]
  have := box_own (t := 0) (n := s.length) (size := 2) h hz (by unfold maxLen; omega)
  unfold RNm
  rw [ofStep_len, ← hs]
  exact this

theorem namesA_nil : namesA [] = fun D => D := by
  funext D
  unfold namesA
  rfl
section
variable (r : Nat) (D : DiskV) (M : Nat → Prop) (n : ByteArray) (hsm : RSm D) (w : World) (h : RAt w r D M)
include hsm h
/-- names, at a step that has been made in a new slice. -/
theorem names_call (s : StepV) (act : DiskV → DiskV) (hact : namesA s = act) (hst : StepOk s D.files.length) (hs2 : s.length ≤ 2) (W1 : World) (hc : Chg (fun _ => False) w W1) (g : Nat) (hg : w.heap.size ≤ g) (cs : Array Value) (hb : Blk W1 g 104 cs) (hcs : cs.toList = nmCells (ofStep s)) :
    Calls Tryz.prog 97 #[.pointer (some ⟨r, 0, none⟩), .agg #[.slice (some ⟨g, 0, none⟩) s.length s.length]] W1 fun e w' => e = .returned (.int .i64 (changeD D true act).1) ∧ RPost w r M (changeD D true act).2 w' := by
  obtain ⟨hok, y, hin, hce⟩ := h
  refine (rd_names r D y (Mx M w W1) s (.slice (some ⟨g, 0, none⟩) s.length s.length) hok hsm hst hs2 hce W1 ((hin.same hc).more (fun k hk => .inl hk) (mx_lt hin.lt hc.size)) (step_rnm s hb hcs hs2) (fun k hk => by simp [Value.ownBlock] at hk; subst hk; exact .inr ⟨hg, hb.lt⟩)).mono fun e w' ⟨he, hp⟩ => ?_
  rw [hact] at he hp
  exact ⟨he, (hp.more hin.lt (hc.mono (by simp))).post (change_ok hok (by rw [← hact]; exact names_ok (trapped_ok hok) hst) true)⟩
theorem names_call0 (act : DiskV → DiskV) (hact : namesA [] = act) (W1 : World) (hc : Chg (fun _ => False) w W1) :
    Calls Tryz.prog 97 #[.pointer (some ⟨r, 0, none⟩), .agg #[.slice none 0 0]] W1 fun e w' => e = .returned (.int .i64 (changeD D true act).1) ∧ RPost w r M (changeD D true act).2 w' := by
  obtain ⟨hok, y, hin, hce⟩ := h
  have hst : StepOk [] D.files.length := fun c hc => by cases hc
  refine (rd_names r D y (Mx M w W1) [] (.slice none 0 0) hok hsm hst (by simp) hce W1 ((hin.same hc).more (fun k hk => .inl hk) (mx_lt hin.lt hc.size)) (Own.nil _ _ _) (fun k hk => by simp [Value.ownBlock] at hk)).mono fun e w' ⟨he, hp⟩ => ?_
  rw [hact] at he hp
  exact ⟨he, (hp.more hin.lt (hc.mono (by simp))).post (change_ok hok (by rw [← hact]; exact names_ok (trapped_ok hok) hst) true)⟩
set_option maxRecDepth 100000 in
set_option maxHeartbeats 4000000 in
theorem rd_remove : Calls Tryz.prog 52 #[.pointer (some ⟨r, 0, none⟩), .string n] w fun e w' => e = .returned (.int .i64 (removeD D n).1) ∧ RPost w r M (removeD D n).2 w' := by
  have hat := h
  obtain ⟨hok, y, hin, hce⟩ := h
  obtain ⟨_, _, c2, _, _, c5, _⟩ := rin_cells hin
  have hfind := fun W hW => rd_find (ofNames D.names) n y.nv W (hin.parts.names.same (w' := W) hW)
  rw [findN_eq] at hfind
  have hsame : ∀ W, Chg (fun _ => False) w W → RPost w r M D W := fun W hW => RPost.same (hat.same hW) hat.lt (hW.mono (by simp))
  have HS := Lib.hid hsame
  unfold removeD
  cases ho : D.off with
  | true =>
    rw [ho] at c5
    clear hin hfind hok ho hat hsame hsm hce
    go_enter Tryz.func52, Tryz.ntmps52
    go_wp2_with fail
    go_ret
    exact ⟨rfl, HS.out _ (Chg.refl _ _)⟩
  | false =>
    rw [ho] at c5
    cases hk : look D.names n with
    | none =>
      rw [hk] at hfind
      have HF := Lib.hid hfind
      clear hin hfind hok hk ho hat hsame hsm hce
      generalize y.nv = nv at *
      go_enter Tryz.func52, Tryz.ntmps52
      go_wp2_with fail
      refine (HF.out _ (Chg.refl _ _)).mono ?_
      rintro e w' ⟨rfl, m, rfl⟩
      go_wp2_with fail
      go_ret
      exact ⟨rfl, HS.out _ (by ((repeat (first | exact Chg.refl _ _ | assumption | refine Chg.drewN ?_ _ | refine Chg.drew ?_ | refine Chg.alloc ?_ _ | refine Chg.setCell ?_ (by first | (simp; done) | (simp; omega) | (intro h; simp at h; omega)) _))))⟩
    | some i =>
      rw [hk] at hfind
      have hi := hok.names.lt _ (look_some hk)
      have h64 := hok.names.sz _ (look_some hk)
      have hst : StepOk [(n, none)] D.files.length := fun c hc => by simp at hc; subst hc; exact ⟨h64, fun j hj => by cases hj⟩
      have hcall := fun W1 hc hb => names_call r D M hsm w hat [(n, none)] (removeA n) (namesA_one _ _) hst (by simp) W1 hc w.heap.size (Nat.le_refl _) #[.string n, .int .i64 (-1)] hb rfl
      have HC := Lib.hid hcall
      have HF := Lib.hid hfind
      clear hin hfind hok hk ho hat hsame hsm hce hcall hst h64 hi
      generalize y.nv = nv at *
      go_enter Tryz.func52, Tryz.ntmps52
      go_wp2_with fail
      refine (HF.out _ (Chg.refl _ _)).mono ?_
      rintro e w' ⟨rfl, m, rfl⟩
      go_wp2_with fail
      refine (HC.out _ (by ((repeat (first | exact Chg.refl _ _ | assumption | refine Chg.drewN ?_ _ | refine Chg.drew ?_ | refine Chg.alloc ?_ _ | refine Chg.setCell ?_ (by first | (simp; done) | (simp; omega) | (intro h; simp at h; omega)) _)))) (by exact Blk.new _ _ _)).mono ?_
      rintro e w2 ⟨rfl, hp⟩
      have HP := Lib.hid hp
      clear hp
      go_wp2_with fail
      go_ret
      exact ⟨rfl, HP.out⟩
set_option maxRecDepth 100000 in
set_option maxHeartbeats 4000000 in
theorem rd_rename (b : ByteArray) (hb : b.size ≤ maxLen) : Calls Tryz.prog 54 #[.pointer (some ⟨r, 0, none⟩), .string n, .string b] w fun e w' => e = .returned (.int .i64 (renameD D n b).1) ∧ RPost w r M (renameD D n b).2 w' := by
  have hat := h
  obtain ⟨hok, y, hin, hce⟩ := h
  obtain ⟨_, _, c2, _, _, c5, _⟩ := rin_cells hin
  have hfind := fun W hW => rd_find (ofNames D.names) n y.nv W (hin.parts.names.same (w' := W) hW)
  rw [findN_eq] at hfind
  have hsame : ∀ W, Chg (fun _ => False) w W → RPost w r M D W := fun W hW => RPost.same (hat.same hW) hat.lt (hW.mono (by simp))
  have HS := Lib.hid hsame
  unfold renameD
  cases ho : D.off with
  | true =>
    rw [ho] at c5
    clear hin hfind hok ho hat hsame hsm hce
    go_enter Tryz.func54, Tryz.ntmps54
    go_wp2_with fail
    go_ret
    exact ⟨rfl, HS.out _ (Chg.refl _ _)⟩
  | false =>
    rw [ho] at c5
    cases hk : look D.names n with
    | none =>
      rw [hk] at hfind
      have HF := Lib.hid hfind
      clear hin hfind hok hk ho hat hsame hsm hce
      generalize y.nv = nv at *
      go_enter Tryz.func54, Tryz.ntmps54
      go_wp2_with fail
      refine (HF.out _ (Chg.refl _ _)).mono ?_
      rintro e w' ⟨rfl, m, rfl⟩
      go_wp2_with fail
      go_ret
      exact ⟨rfl, HS.out _ (by ((repeat (first | exact Chg.refl _ _ | assumption | refine Chg.drewN ?_ _ | refine Chg.drew ?_ | refine Chg.alloc ?_ _ | refine Chg.setCell ?_ (by first | (simp; done) | (simp; omega) | (intro h; simp at h; omega)) _))))⟩
    | some i =>
      rw [hk] at hfind
      have hi := hok.names.lt _ (look_some hk)
      have h64 := hok.names.sz _ (look_some hk)
      have hi0 : (0 : Int) ≤ (i : Int) := by omega
      simp only [Bool.false_eq_true, if_false]
      by_cases h0 : b.size = 0
      · have hbn : b = ⟨#[]⟩ := by
          cases b with | mk a => cases a with | mk l => cases l with | nil => rfl | cons x xs => simp [ByteArray.size] at h0
        subst hbn
        have hg : goodN ⟨#[]⟩ = false := by decide +kernel
        rw [hg]
        simp only [Bool.false_eq_true, if_false]
        have HF := Lib.hid hfind
        clear hin hfind hok hk ho hat hsame hsm hce hi h64 h0 hg
        generalize y.nv = nv at *
        go_enter Tryz.func54, Tryz.ntmps54
        go_wp2_with fail
        refine (HF.out _ (Chg.refl _ _)).mono ?_
        rintro e w' ⟨rfl, m, rfl⟩
        go_wp2_with fail
        go_ret
        exact ⟨rfl, HS.out _ (by ((repeat (first | exact Chg.refl _ _ | assumption | refine Chg.drewN ?_ _ | refine Chg.drew ?_ | refine Chg.alloc ?_ _ | refine Chg.setCell ?_ (by first | (simp; done) | (simp; omega) | (intro h; simp at h; omega)) _))))⟩
      · have hne : ¬ b.toList = [] := fun e => h0 (by
          have : b.toList.length = b.size := by rw [ByteArray.toList_eq]; exact Array.length_toList
          rw [e] at this; simpa using this.symm)
        have hne2 : (b.toList == []) = false := by simp [hne]
        have hne3 : b.toList.isEmpty = false := by simp [hne]
        by_cases h1 : b.size ≤ 64
        · have hg : goodN b = true := by simp [goodN, h0, h1]
          rw [hg]
          simp only [if_true]
          have h1' : (b.size : Int) ≤ 64 := by omega
          have heq := str_eqb n b
          have HF := Lib.hid hfind
          by_cases hnb : n = b
          · have hact : namesA [] = renameA n b i := by rw [namesA_nil]; funext D; unfold renameA; rw [if_pos hnb]
            have hcall := fun W1 hc => names_call0 r D M hsm w hat (renameA n b i) hact W1 hc
            have HC := Lib.hid hcall
            rw [decide_eq_true hnb] at heq
            clear hin hfind hok hk ho hat hsame hsm hce hcall h64 hi h0 h1 hg hact hne
            generalize renameA n b i = act at *
            generalize y.nv = nv at *
            clear hnb
            go_enter Tryz.func54, Tryz.ntmps54
            go_wp2_with fail
            refine (HF.out _ (Chg.refl _ _)).mono ?_
            rintro e w' ⟨rfl, m, rfl⟩
            go_wp2_with fail
            refine (HC.out _ (by ((repeat (first | exact Chg.refl _ _ | assumption | refine Chg.drewN ?_ _ | refine Chg.drew ?_ | refine Chg.alloc ?_ _ | refine Chg.setCell ?_ (by first | (simp; done) | (simp; omega) | (intro h; simp at h; omega)) _))))).mono ?_
            rintro e w2 ⟨rfl, hp⟩
            have HP := Lib.hid hp
            clear hp
            go_wp2_with fail
            go_ret
            exact ⟨rfl, HP.out⟩
          · have hact : namesA [(b, some i), (n, none)] = renameA n b i := by rw [namesA_one]; funext D; unfold renameA; rw [if_neg hnb]
            have hst : StepOk [(b, some i), (n, none)] D.files.length := fun c hc => by
              simp at hc
              rcases hc with rfl | rfl
              · exact ⟨h1, fun j hj => by cases hj; exact hi⟩
              · exact ⟨h64, fun j hj => by cases hj⟩
            have hcall := fun W1 hc hb => names_call r D M hsm w hat [(b, some i), (n, none)] (renameA n b i) hact hst (by simp) W1 hc w.heap.size (Nat.le_refl _) #[.string b, .int .i64 i, .string n, .int .i64 (-1)] hb rfl
            have HC := Lib.hid hcall
            rw [decide_eq_false hnb] at heq
            clear hin hfind hok hk ho hat hsame hsm hce hcall h64 hi h0 h1 hg hact hst hne hnb
            generalize renameA n b i = act at *
            generalize y.nv = nv at *
            go_enter Tryz.func54, Tryz.ntmps54
            go_wp2_with fail
            refine (HF.out _ (Chg.refl _ _)).mono ?_
            rintro e w' ⟨rfl, m, rfl⟩
            go_wp2_with fail
            refine (HC.out _ (by ((repeat (first | exact Chg.refl _ _ | assumption | refine Chg.drewN ?_ _ | refine Chg.drew ?_ | refine Chg.alloc ?_ _ | refine Chg.setCell ?_ (by first | (simp; done) | (simp; omega) | (intro h; simp at h; omega)) _)))) (by exact Blk.new _ _ _)).mono ?_
            rintro e w2 ⟨rfl, hp⟩
            have HP := Lib.hid hp
            clear hp
            go_wp2_with fail
            go_ret
            exact ⟨rfl, HP.out⟩
        · have hg : goodN b = false := by simp [goodN, h0, h1]
          rw [hg]
          simp only [Bool.false_eq_true, if_false]
          have h1' : ¬ (b.size : Int) ≤ 64 := by omega
          have HF := Lib.hid hfind
          clear hin hfind hok hk ho hat hsame hsm hce hi h64 h0 h1 hg hne
          generalize y.nv = nv at *
          go_enter Tryz.func54, Tryz.ntmps54
          go_wp2_with fail
          refine (HF.out _ (Chg.refl _ _)).mono ?_
          rintro e w' ⟨rfl, m, rfl⟩
          go_wp2_with fail
          go_ret
          exact ⟨rfl, HS.out _ (by ((repeat (first | exact Chg.refl _ _ | assumption | refine Chg.drewN ?_ _ | refine Chg.drew ?_ | refine Chg.alloc ?_ _ | refine Chg.setCell ?_ (by first | (simp; done) | (simp; omega) | (intro h; simp at h; omega)) _))))⟩
end
end Go.Proofs.YtjfbcjmnjlehaaaGreatDoor
