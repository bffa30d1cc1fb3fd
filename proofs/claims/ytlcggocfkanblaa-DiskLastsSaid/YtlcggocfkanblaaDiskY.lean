/-
  What is synced lasts: the law's walk.
-/
import Derived.Test.YtlcggocfkanblaaDiskQ
import Derived.Test.YtlcggocfkanblaaDiskU
namespace Go.Proofs.Ytlcggocfkanblaa
open Go.RowKit Go.Sort
set_option linter.unusedVariables false
set_option linter.unusedSimpArgs false
set_option linter.unusedSectionVars false

section
variable (F M : ByteArray) (hF : F.size ≤ 1000) (hM : M.size ≤ 1000) (w0 : World) (d : Nat)
include hF hM
theorem l_append (w : World) (h : DState w0 w d (rnY0 F 0 0 [])) : Calls Try.prog 11 #[.pointer (some ⟨d, 0, none⟩), .string sA, .string M] w fun e w' => e = .returned (.int .i64 0) ∧ DState w0 w' d (lsZ4 F M) := by
  have := st_append w0 d _ sA (by decide) (small_one (by simp [rnY0]) (by simp [rnY0]) (by simp [rnY0])) w h M (by omega)
  rwa [ls_append F M hF hM] at this
theorem l_create (w : World) (h : DState w0 w d (lsZ4 F M)) : Calls Try.prog 10 #[.pointer (some ⟨d, 0, none⟩), .string sB] w fun e w' => e = .returned (.int .i64 0) ∧ DState w0 w' d (lsZ5 F M) := by
  have := st_create w0 d _ sB (by decide) (small_one (by simp [lsZ4]) (by simp [lsZ4]) (by simp [lsZ4])) w h
  rwa [ls_create] at this
theorem l_read (n : Int) (bs : List Int) (w : World) (h : DState w0 w d (crashD (lsZ5 F M) n bs)) : Calls Try.prog 17 #[.pointer (some ⟨d, 0, none⟩), .string sA] w fun e w' =>
    ∃ k, k ≤ M.size ∧ e = .returned (.tuple #[.string ((F ++ M).extract 0 (F.size + k)), .int .i64 0]) ∧ DState w0 w' d (crashD (lsZ5 F M) n bs) := by
  obtain ⟨k, hk, hr⟩ := ls_read F M n bs
  have := st_read w0 d _ sA (by decide) w h
  rw [hr] at this
  exact this.mono fun e w' ⟨he, hd⟩ => ⟨k, hk, he, hd⟩
theorem l_list (n : Int) (bs : List Int) (w : World) (h : DState w0 w d (crashD (lsZ5 F M) n bs)) : Calls Try.prog 18 #[.pointer (some ⟨d, 0, none⟩)] w fun e w' =>
    ∃ g cap, ((e = .returned (.slice (some ⟨g, 0, none⟩) 1 cap) ∧ 1 ≤ cap ∧ w'.cell? ⟨g, 0, none⟩ = some (.string sA)) ∨
      (e = .returned (.slice (some ⟨g, 0, none⟩) 2 cap) ∧ 2 ≤ cap ∧ w'.cell? ⟨g, 0, none⟩ = some (.string sA) ∧ w'.cell? ⟨g, 1, none⟩ = some (.string sB))) ∧ Chg (fun _ => False) w0 w' := by
  have hfr := h.frame
  have hnl : (crashD (lsZ5 F M) n bs).names.length ≤ 1000000 := by rcases ls_names F M n bs with e | e <;> rw [e] <;> simp
  obtain ⟨ids, Mm, ha, hMm, hc⟩ := h
  refine (disk_list d ids _ Mm hnl w ha).mono fun e w' ⟨v, he, hrow, hc'⟩ => ?_
  obtain ⟨h1, h2⟩ := hrow
  rcases ls_list F M n bs with hl | hl
  · rw [hl] at h1 h2
    rcases h2 with ⟨_, h2⟩ | ⟨g, cap, cur, hv, hg, hh, hcap, _, hcs, hx⟩
    · simp at h2
    · refine ⟨g, cap, .inl ⟨by rw [he, hv]; rfl, hcap, ?_⟩, hfr.then hc'⟩
      have h0 : cur[0]? = some (encStr [97]) := by
        have := congrArg (fun l : List Value => l[0]?) hx
        simpa [List.getElem?_take] using this
      simp [World.cell?, hh, h0]; rfl
  · rw [hl] at h1 h2
    rcases h2 with ⟨_, h2⟩ | ⟨g, cap, cur, hv, hg, hh, hcap, _, hcs, hx⟩
    · simp at h2
    · refine ⟨g, cap, .inr ⟨by rw [he, hv]; rfl, hcap, ?_, ?_⟩, hfr.then hc'⟩
      · have h0 : cur[0]? = some (encStr [97]) := by
          have := congrArg (fun l : List Value => l[0]?) hx
          simpa [List.getElem?_take] using this
        simp [World.cell?, hh, h0]; rfl
      · have h0 : cur[1]? = some (encStr [98]) := by
          have := congrArg (fun l : List Value => l[1]?) hx
          simpa [List.getElem?_take] using this
        simp [World.cell?, hh, h0]; rfl
end
end Go.Proofs.Ytlcggocfkanblaa
