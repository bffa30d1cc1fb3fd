/-
  What is merged next: plain facts. The tables of a job, taken out, leave room for one from their least to their greatest key in the lower level. Plain Lean; no program; no condition.
-/
import Derived.Test.YtkhgfmmcjoglkaaVerN
namespace Go.Proofs.Ytkhgfmmcjoglkaa
set_option linter.unusedVariables false
set_option linter.unusedSimpArgs false

def smin (a b : ByteArray) : ByteArray := if sl b a then b else a
def smax (a b : ByteArray) : ByteArray := if sl a b then b else a
def loF (d : ByteArray) (l : List MetaV) : ByteArray := l.foldl (fun a m => smin a m.lo) d
def hiF (d : ByteArray) (l : List MetaV) : ByteArray := l.foldl (fun a m => smax a m.hi) d
/-- a ≤ b. -/
def le_ (a b : ByteArray) : Prop := sl b a = false
theorem le_refl_ (a : ByteArray) : le_ a a := sl_irrefl a
theorem le_trans_ {a b c : ByteArray} (h1 : le_ a b) (h2 : le_ b c) : le_ a c := sl_ntrans h2 h1
theorem lt_le_ {a b : ByteArray} (h : sl a b = true) : le_ a b := sl_asymm h
theorem lt_of_lt_le_ {a b c : ByteArray} (h1 : sl a b = true) (h2 : le_ b c) : sl a c = true := sl_lt_le h1 h2
theorem lt_of_le_lt_ {a b c : ByteArray} (h1 : le_ a b) (h2 : sl b c = true) : sl a c = true := sl_le_lt h1 h2
theorem smin_le_left (a b : ByteArray) : le_ (smin a b) a := by
  unfold smin
  split
  · exact lt_le_ ‹_›
  · exact le_refl_ _
theorem smin_le_right (a b : ByteArray) : le_ (smin a b) b := by
  unfold smin
  split
  · exact le_refl_ _
  · rename_i h; simpa [le_] using h
theorem smax_ge_left (a b : ByteArray) : le_ a (smax a b) := by
  unfold smax
  split
  · exact lt_le_ ‹_›
  · exact le_refl_ _
theorem smax_ge_right (a b : ByteArray) : le_ b (smax a b) := by
  unfold smax
  split
  · exact le_refl_ _
  · rename_i h; simpa [le_] using h
theorem loF_le : ∀ (l : List MetaV) (d : ByteArray), le_ (loF d l) d ∧ ∀ m ∈ l, le_ (loF d l) m.lo
  | [], d => ⟨le_refl_ _, by simp⟩
  | x :: r, d => by
    obtain ⟨h1, h2⟩ := loF_le r (smin d x.lo)
    refine ⟨le_trans_ h1 (smin_le_left _ _), fun m hm => ?_⟩
    rcases List.mem_cons.1 hm with rfl | hm
    · exact le_trans_ h1 (smin_le_right _ _)
    · exact h2 m hm
theorem hiF_ge : ∀ (l : List MetaV) (d : ByteArray), le_ d (hiF d l) ∧ ∀ m ∈ l, le_ m.hi (hiF d l)
  | [], d => ⟨le_refl_ _, by simp⟩
  | x :: r, d => by
    obtain ⟨h1, h2⟩ := hiF_ge r (smax d x.hi)
    refine ⟨le_trans_ (smax_ge_left _ _) h1, fun m hm => ?_⟩
    rcases List.mem_cons.1 hm with rfl | hm
    · exact le_trans_ (smax_ge_right _ _) h1
    · exact h2 m hm
theorem loF_mem : ∀ (l : List MetaV) (d : ByteArray), loF d l = d ∨ ∃ m ∈ l, loF d l = m.lo
  | [], d => .inl rfl
  | x :: r, d => by
    rcases loF_mem r (smin d x.lo) with h | ⟨m, hm, h⟩
    · have h' : loF d (x :: r) = smin d x.lo := h
      unfold smin at h'
      split at h'
      · exact .inr ⟨x, by simp, h'⟩
      · exact .inl h'
    · exact .inr ⟨m, by simp [hm], h⟩
theorem hiF_mem : ∀ (l : List MetaV) (d : ByteArray), hiF d l = d ∨ ∃ m ∈ l, hiF d l = m.hi
  | [], d => .inl rfl
  | x :: r, d => by
    rcases hiF_mem r (smax d x.hi) with h | ⟨m, hm, h⟩
    · have h' : hiF d (x :: r) = smax d x.hi := h
      unfold smax at h'
      split at h'
      · exact .inr ⟨x, by simp, h'⟩
      · exact .inl h'
    · exact .inr ⟨m, by simp [hm], h⟩
theorem apart_in {l : List MetaV} (h : l.Pairwise fun a b => sl a.hi b.lo = true) {m t : MetaV} (hm : m ∈ l) (ht : t ∈ l) (hne : m ≠ t) : sl m.hi t.lo = true ∨ sl t.hi m.lo = true := by
  induction l with
  | nil => cases hm
  | cons x r ih =>
    obtain ⟨h1, h2⟩ := List.pairwise_cons.1 h
    rcases List.mem_cons.1 hm with e1 | hm' <;> rcases List.mem_cons.1 ht with e2 | ht'
    · exact absurd (e1.trans e2.symm) hne
    · rw [e1]; exact .inl (h1 t ht')
    · rw [e2]; exact .inr (h1 m hm')
    · exact ih h2 hm' ht'

/-- The job's edit. -/
def jobE (S : VerV) (L : Nat) (fs : List Int) (LO HI : ByteArray) : EditV := ⟨[⟨((L + 1 : Nat) : Int), ⟨S.next, 0, LO, HI⟩⟩], fs, S.log, S.next + 1, S.seq⟩
theorem job_ok {S : VerV} (hS : Good S) (hlog : 0 ≤ S.log) (hnx : 0 ≤ S.next) {L : Nat} (hL : L < 3) {fr to : List MetaV} (hfr : fr.Sublist (S.lv L)) (hne : fr ≠ [])
    {a b : ByteArray} (ha : ∀ m ∈ fr, le_ a m.lo) (hb : ∀ m ∈ fr, le_ m.hi b) (hto : to = (S.lv (L + 1)).filter fun m => !sl m.hi a && !sl b m.lo)
    {LO HI : ByteArray} (hLO : ∃ m ∈ fr ++ to, LO = m.lo) (hHI : ∃ m ∈ fr ++ to, HI = m.hi) (hle : le_ LO HI) : okV S (jobE S L ((fr ++ to).map (·.file)) LO HI) := by
  have hnum := hS.nums
  have hto' : to.Sublist (S.lv (L + 1)) := by rw [hto]; exact List.filter_sublist
  have hmem : ∀ m ∈ fr ++ to, m.file ∈ filesOf (flat S) := fun m hm => by
    rw [flat_eq]
    rcases List.mem_append.1 hm with hm | hm
    · exact List.mem_map.2 ⟨⟨(L : Int), m⟩, mem_flatF.2 ⟨L, by omega, m, hfr.subset hm, rfl⟩, rfl⟩
    · exact List.mem_map.2 ⟨⟨((L + 1 : Nat) : Int), m⟩, mem_flatF.2 ⟨L + 1, by omega, m, hto'.subset hm, rfl⟩, rfl⟩
  have hnd : ((fr ++ to).map (·.file)).Nodup := by
    rw [List.map_append]
    have h1 : (fr.map (·.file) ++ to.map (·.file)).Sublist ((S.lv L).map (·.file) ++ (S.lv (L + 1)).map (·.file)) := (hfr.map _).append (hto'.map _)
    have h2 : ((S.lv L).map (·.file) ++ (S.lv (L + 1)).map (·.file)).Sublist (filesOf (flat S)) := by
      have e : filesOf (flat S) = (S.lv 0).map (·.file) ++ ((S.lv 1).map (·.file) ++ ((S.lv 2).map (·.file) ++ (S.lv 3).map (·.file))) := by
        simp [filesOf, flat, atLevel, Function.comp_def]
      rw [e]
      match L, hL with
      | 0, _ => exact (List.Sublist.refl _).append (List.sublist_append_left _ _)
      | 1, _ => exact ((List.Sublist.refl _).append (List.sublist_append_left _ _)).trans (List.sublist_append_right _ _)
      | 2, _ => exact ((List.sublist_append_right _ _).trans (List.sublist_append_right _ _))
    exact hS.files.sublist (h1.trans h2)
  have hends : ∀ m ∈ fr ++ to, le_ m.lo m.hi := fun m hm => by
    rcases List.mem_append.1 hm with hm | hm
    · exact (hS.ends L (by omega) m (hfr.subset hm)).1
    · exact (hS.ends (L + 1) (by omega) m (hto'.subset hm)).1
  refine ⟨⟨by simp [jobE]; omega, by simp [jobE]; omega⟩, ⟨fun f hf => ?_, hnd⟩, ⟨fun p hp => ?_, by simp [jobE]⟩, fun i h1 h4 => ?_⟩
  · obtain ⟨m, hm, rfl⟩ := List.mem_map.1 hf
    exact hmem m hm
  · simp only [jobE, List.mem_singleton] at hp
    subst hp
    refine ⟨⟨by show (0 : Int) ≤ ((L + 1 : Nat) : Int); omega, by show ((L + 1 : Nat) : Int) < 4; omega, hnx, by show S.next < S.next + 1; omega, by show (0 : Int) ≤ 0; omega, hle⟩, fun h => ?_⟩
    obtain ⟨p, hp, e⟩ := List.mem_map.1 h
    rw [flat_eq] at hp
    obtain ⟨i, hi, m, hm, rfl⟩ := mem_flatF.1 hp
    have := (hS.ends i hi m hm).2.2
    simp only at e
    omega
  · rw [apart_perm (next_perm S _ i)]
    have hk : (kept (jobE S L ((fr ++ to).map (·.file)) LO HI).drop (S.lv i)).Sublist (S.lv i) := List.filter_sublist
    have hkp : (kept (jobE S L ((fr ++ to).map (·.file)) LO HI).drop (S.lv i)).Pairwise Apart := ((hS.rest i h1 h4).imp fun h => Or.inl h).sublist hk
    by_cases hi : i = L + 1
    · subst hi
      have hadd : added (L + 1) (jobE S L ((fr ++ to).map (·.file)) LO HI).add = [⟨S.next, 0, LO, HI⟩] := by simp [added, jobE]
      rw [hadd, List.pairwise_append]
      refine ⟨hkp, by simp, fun m hm x hx => ?_⟩
      simp only [List.mem_singleton] at hx
      subst hx
      obtain ⟨hml, hmd⟩ := List.mem_filter.1 hm
      have hmt : m ∉ to := fun h => by
        have : m.file ∈ (fr ++ to).map (·.file) := List.mem_map.2 ⟨m, by simp [h], rfl⟩
        simp [jobE] at hmd
        simp at this
        rcases this with ⟨x, hx, e⟩ | ⟨x, hx, e⟩
        · exact hmd.1 x hx e
        · exact hmd.2 x hx e
      have hov : sl m.hi a = true ∨ sl b m.lo = true := by
        cases h1 : sl m.hi a with
        | true => exact .inl rfl
        | false =>
          cases h2 : sl b m.lo with
          | true => exact .inr rfl
          | false => exact absurd (by rw [hto]; exact List.mem_filter.2 ⟨hml, by simp [h1, h2]⟩) hmt
      have hself := (hS.ends (L + 1) (by omega) m hml).1
      rcases hov with hov | hov
      · left
        obtain ⟨t, ht, rfl⟩ := hLO
        show sl m.hi t.lo = true
        rcases List.mem_append.1 ht with ht | ht
        · exact lt_of_lt_le_ hov (ha t ht)
        · have ht2 : t ∈ (S.lv (L + 1)).filter fun m => !sl m.hi a && !sl b m.lo := by rw [← hto]; exact ht
          obtain ⟨htl, hto2⟩ := List.mem_filter.1 ht2
          simp at hto2
          rcases apart_in (hS.rest (L + 1) h1 h4) hml htl (fun e => hmt (by rw [e]; exact ht)) with h | h
          · exact h
          · exfalso
            have h3 : sl t.hi a = true := lt_of_lt_le_ h (le_trans_ hself (lt_le_ hov))
            rw [hto2.1] at h3; cases h3
      · right
        obtain ⟨t, ht, rfl⟩ := hHI
        show sl t.hi m.lo = true
        rcases List.mem_append.1 ht with ht | ht
        · exact lt_of_le_lt_ (hb t ht) hov
        · have ht2 : t ∈ (S.lv (L + 1)).filter fun m => !sl m.hi a && !sl b m.lo := by rw [← hto]; exact ht
          obtain ⟨htl, hto2⟩ := List.mem_filter.1 ht2
          simp at hto2
          rcases apart_in (hS.rest (L + 1) h1 h4) hml htl (fun e => hmt (by rw [e]; exact ht)) with h | h
          · exfalso
            have h3 : sl b t.lo = true := lt_of_lt_le_ hov (le_trans_ hself (lt_le_ h))
            rw [hto2.2] at h3; cases h3
          · exact h
    · have hadd : added i (jobE S L ((fr ++ to).map (·.file)) LO HI).add = [] := by
        have : ¬ ((L : Int) + 1 = (i : Int)) := by omega
        simp [added, jobE, this]
      rw [hadd, List.append_nil]
      exact hkp
end Go.Proofs.Ytkhgfmmcjoglkaa
