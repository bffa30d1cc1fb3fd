/-
  What a loss of power leaves of a log: plain facts. Plain Lean; no condition.
-/
import Derived.Test.YtjfbcjmnjlehaaaDoorWalL
namespace Go.Proofs.YtjfbcjmnjlehaaaDoor
open Go.RowKit
set_option linter.unusedVariables false
set_option linter.unusedSimpArgs false

/-- One log alone on a disk, what stands there lasts. -/
structure One (D : DiskV) (s : List UInt8) : Prop where
  names : D.names = [(logN 1, 0)]
  lasts : D.lasts = [(logN 1, 0)]
  queue : D.queue = []
  file : ∃ t : ByteArray, D.files = [⟨t, t.size⟩] ∧ t.data.toList = s
/-- .. and nothing but a cut waits on it. -/
structure LiveC (D : DiskV) (l : List ByteArray) : Prop where
  off : D.off = false
  full : D.fullL = 0
  room : D.room = 1099511627776
  one : One D (frasB (bl l))
theorem ext_take (t : ByteArray) (k : Nat) : (t.extract 0 k).data.toList = t.data.toList.take k := by
  rw [ByteArray.data_extract, Array.toList_extract]
  simp
/-- The power fails. -/
theorem fail_one {D : DiskV} {t : ByteArray} {m : Nat} (hl : D.lasts = [(logN 1, 0)]) (hq : D.queue = []) (hf : D.files = [⟨t, m⟩]) (hm : m ≤ t.size) (nm : Int) (by_ : List Int) (off : Bool) :
    ∃ k, m ≤ k ∧ k ≤ t.size ∧ One { failD D nm by_ with off := off } (t.data.toList.take k) := by
  obtain ⟨k, hk⟩ : ∃ k, m + (if by_ = [] then (0 : Int) else restI (by_.getD (0 % by_.length) 0) ((t.size : Int) - m + 1)).toNat = k := ⟨_, rfl⟩
  have hk1 : m ≤ k ∧ k ≤ t.size := by
    rw [← hk]
    split
    · simp; exact hm
    · have := restI_bd (n := by_.getD (0 % by_.length) 0) (b := (t.size : Int) - m + 1) (by omega)
      omega
  refine ⟨k, hk1.1, hk1.2, ?_, ?_, rfl, t.extract 0 k, ?_, ext_take t k⟩
  · show doAll D.lasts (D.queue.take _) = _
    rw [hq, List.take_nil]
    exact hl
  · show doAll D.lasts (D.queue.take _) = _
    rw [hq, List.take_nil]
    exact hl
  · show D.files.mapIdx (fileFix by_) = _
    rw [hf]
    have e : fileFix by_ 0 ⟨t, m⟩ = ⟨t.extract 0 k, k⟩ := by
      unfold fileFix
      simp only
      rw [hk]
    have e2 : (t.extract 0 k).size = k := by rw [ByteArray.size_extract]; omega
    rw [e2]
    simpa using e
theorem one_keeps {D : DiskV} {s : List UInt8} (h : One D s) (nm : Int) (by_ : List Int) (off : Bool) : One { failD D nm by_ with off := off } s := by
  obtain ⟨_, hl, hq, t, hf, hs⟩ := h
  obtain ⟨k, h1, h2, h3⟩ := fail_one hl hq hf (Nat.le_refl _) nm by_ off
  rw [List.take_of_length_le (by rw [ba_size]; omega), hs] at h3
  exact h3
/-- What is read behind a crash. -/
theorem one_read {D : DiskV} {s : List UInt8} (h : One D s) (nm : Int) (by_ : List Int) : (readD (crashD D nm by_) (logN 1)).2 = 0 ∧ (readD (crashD D nm by_) (logN 1)).1.data.toList = s := by
  have h2 := one_keeps h nm by_ false
  obtain ⟨hn, _, _, t, hf, hs⟩ := h2
  have e : look (crashD D nm by_).names (logN 1) = some 0 := by
    show look ({ failD D nm by_ with off := false } : DiskV).names (logN 1) = _
    rw [hn]
    rfl
  have e2 : (crashD D nm by_).files = [⟨t, t.size⟩] := hf
  have e3 : (crashD D nm by_).off = false := rfl
  unfold readD
  rw [e3, e]
  simp only [Bool.false_eq_true, if_false]
  unfold dataOf
  rw [e2]
  exact ⟨trivial, hs⟩
theorem change_live {D : DiskV} (hf : D.fullL = 0) (c : Bool) (act : DiskV → DiskV) :
    changeD D c act = (0, act (trapped D)) ∨ changeD D c act = (13, { failD (if c then act (trapped D) else trapped D) (if c then act (trapped D) else trapped D).cutN (if c then act (trapped D) else trapped D).cutB with off := true }) := by
  unfold changeD
  by_cases h : (spring D.cutL).1 = true
  · rw [if_pos h]; exact .inr rfl
  · rw [if_neg h, hf]
    exact .inl rfl
theorem append_live {D : DiskV} {l : List ByteArray} (h : LiveC D l) (b : ByteArray) (hb : b.size ≤ 65535) (hl : (frasB (bl l)).length + 8 + b.size ≤ 1048576) :
    ((appendW D (logN 1) b).1 = 0 ∧ LiveC (appendW D (logN 1) b).2 (l ++ [b])) ∨
    ((appendW D (logN 1) b).1 = 13 ∧ ∃ k, k ≤ 8 + b.size ∧ One (appendW D (logN 1) b).2 (frasB (bl l) ++ (fraB b.data.toList).take k)) := by
  have hp : putV b = (fraBA b, 0) := by unfold putV; rw [if_neg (by omega)]
  obtain ⟨hoff, hfull, hroom, hn, hla, hq, t, hf, hs⟩ := h
  have hsz := fraBA_size b
  have hts : t.size = (frasB (bl l)).length := by rw [← ba_size, hs]
  have hlk : look D.names (logN 1) = some 0 := by rw [hn]; rfl
  have hdat : dataOf D 0 = t := by unfold dataOf; rw [hf]; rfl
  have hus : usedD D = t.size := by
    unfold usedD
    rw [hn]
    simp [sizeOfN, hf]
  have h1 : appendD D (logN 1) (fraBA b) = changeD D true (appendA 0 (fraBA b)) := by
    unfold appendD
    rw [hoff, hlk]
    simp only [Bool.false_eq_true, if_false]
    rw [hdat, hus, hroom, if_neg (by omega)]
  obtain ⟨T, hT⟩ : ∃ T, T = appendA 0 (fraBA b) (trapped D) := ⟨_, rfl⟩
  have gf : T.files = [⟨t ++ fraBA b, t.size⟩] := by
    rw [hT]
    show (trapped D).files.modify 0 _ = _
    rw [show (trapped D).files = [⟨t, t.size⟩] from hf]
    rfl
  have gn : T.names = [(logN 1, 0)] := by rw [hT]; exact hn
  have gl : T.lasts = [(logN 1, 0)] := by rw [hT]; exact hla
  have gq : T.queue = [] := by rw [hT]; exact hq
  have gful : T.fullL = 0 := by
    rw [hT]
    show (spring D.fullL).2 = 0
    rw [hfull]; rfl
  have goff : T.off = false := by rw [hT]; exact hoff
  have groom : T.room = 1099511627776 := by rw [hT]; exact hroom
  have gsz : (t ++ fraBA b).size = t.size + (8 + b.size) := by rw [ByteArray.size_append, hsz]
  have gs : (t ++ fraBA b).data.toList = frasB (bl l) ++ fraB b.data.toList := by
    rw [ByteArray.data_append, Array.toList_append, hs]
    rfl
  have cutoff : ∀ X : DiskV, X.lasts = [(logN 1, 0)] → X.queue = [] → X.files = [⟨t ++ fraBA b, t.size⟩] → ∀ nm by_, ∃ k, k ≤ 8 + b.size ∧ One { failD X nm by_ with off := true } (frasB (bl l) ++ (fraB b.data.toList).take k) := by
    intro X x1 x2 x3 nm by_
    obtain ⟨k, k1, k2, k3⟩ := fail_one x1 x2 x3 (by omega) nm by_ true
    refine ⟨k - t.size, by omega, ?_⟩
    rw [gs, List.take_append, List.take_of_length_le (by omega), ← hts] at k3
    exact k3
  unfold appendW
  rw [hp]
  simp only [ne_eq, not_true_eq_false, if_false]
  rcases change_live hfull true (appendA 0 (fraBA b)) with h2 | h2
  · rw [h1, h2, ← hT]
    simp only [not_true_eq_false, if_false]
    have h3 : syncD T (logN 1) = changeD T false (syncA 0) := by
      unfold syncD
      rw [goff, gn]
      rfl
    rw [h3]
    rcases change_live gful false (syncA 0) with h4 | h4
    · rw [h4]
      refine .inl ⟨rfl, goff, ?_, groom, gn, gl, gq, t ++ fraBA b, ?_, ?_⟩
      · show (spring T.fullL).2 = 0
        rw [gful]; rfl
      · show (trapped T).files.modify 0 _ = _
        rw [show (trapped T).files = [⟨t ++ fraBA b, t.size⟩] from gf]
        rfl
      · rw [gs, frasB_snoc]
    · rw [h4]
      refine .inr ⟨rfl, ?_⟩
      exact cutoff (trapped T) gl gq gf _ _
  · rw [h1, h2]
    simp only [if_true]
    rw [← hT]
    rw [if_pos (by decide)]
    exact .inr ⟨rfl, cutoff T gl gq gf _ _⟩
/-- What is found of a log whose last frame may be cut off. -/
theorem all_torn (l : List ByteArray) (b : ByteArray) (h : ∀ x ∈ l, x.size ≤ 65535) (hb : b.size ≤ 65535) (k : Nat) (hk : k ≤ 8 + b.size) :
    allF (frasB (bl l) ++ (fraB b.data.toList).take k) = (bl l, 10) ∨ allF (frasB (bl l) ++ (fraB b.data.toList).take k) = (bl l, 3) ∨ allF (frasB (bl l) ++ (fraB b.data.toList).take k) = (bl (l ++ [b]), 10) := by
  have hb' : b.data.toList.length ≤ 65535 := by rw [ba_size]; exact hb
  have hsz := ba_size b
  rw [all_fras (bl l) _ (bl_size h)]
  rcases Nat.eq_zero_or_pos k with h0 | h0
  · left
    rw [h0, List.take_zero, all_nil, List.append_nil]
  · by_cases h1 : k < 8 + b.data.toList.length
    · right; left
      rw [all_cut _ hb' k h1 h0, List.append_nil]
    · right; right
      rw [List.take_of_length_le (by rw [fraB_len]; omega)]
      have := all_fra b.data.toList [] hb'
      rw [List.append_nil, all_nil] at this
      rw [this]
      simp [bl]
/-- What Read tells behind the loss of power: at least k bodies, at most m. -/
def TailOk (D : DiskV) (S : Nat → ByteArray) (k m : Nat) : Prop :=
  ∀ nm by_, (readD (crashD D nm by_) (logN 1)).2 = 0 ∧ ∃ r z, k ≤ r ∧ r ≤ m ∧ allF (readD (crashD D nm by_) (logN 1)).1.data.toList = (bl (pre 1000 S r), z) ∧ (z = 10 ∨ (z = 3 ∧ r < m))
theorem tail_live {D : DiskV} {S : Nat → ByteArray} {k : Nat} (h : LiveC D (pre 1000 S k)) : TailOk D S k k := fun nm by_ => by
  obtain ⟨h1, h2⟩ := one_read h.one nm by_
  refine ⟨h1, k, 10, Nat.le_refl _, Nat.le_refl _, ?_, .inl rfl⟩
  rw [h2]
  exact all_calm fun b hb => by have := pre_size 1000 S k b hb; omega
theorem tail_gone {D : DiskV} {S : Nat → ByteArray} {k j : Nat} (hj : j ≤ 8 + (cutB 1000 (S k)).size) (h : One D (frasB (bl (pre 1000 S k)) ++ (fraB (cutB 1000 (S k)).data.toList).take j)) : TailOk D S k (k + 1) := fun nm by_ => by
  obtain ⟨h1, h2⟩ := one_read h nm by_
  refine ⟨h1, ?_⟩
  rw [h2]
  rcases all_torn (pre 1000 S k) (cutB 1000 (S k)) (fun b hb => by have := pre_size 1000 S k b hb; omega) (by have := cutB_size 1000 (S k); omega) j hj with e | e | e
  · exact ⟨k, 10, by omega, by omega, e, .inl rfl⟩
  · exact ⟨k, 3, by omega, by omega, e, .inr ⟨rfl, by omega⟩⟩
  · rw [← pre_succ] at e
    exact ⟨k + 1, 10, by omega, by omega, e, .inl rfl⟩
theorem bk1_rest : bk1.lasts = [(logN 1, 0)] ∧ bk1.queue = [] ∧ (bk1.files.map fun f => (f.data, f.lasts)) = [(⟨#[]⟩, 0)] := by
  refine ⟨?_, ?_, ?_⟩ <;> decide +kernel
theorem cut_live (n names : Int) (bytes : List Int) : LiveC (cutD bk1 n names bytes) [] := by
  refine ⟨bk_res.2.1, bk_res.2.2.2.1, bk_res.2.2.2.2.1, bk_res.2.2.2.2.2.1, bk1_rest.1, bk1_rest.2.1, ⟨#[]⟩, ?_, rfl⟩
  have h := bk1_rest.2.2
  show bk1.files = _
  cases hf : bk1.files with
  | nil => rw [hf] at h; simp at h
  | cons f r =>
    rw [hf] at h
    simp only [List.map_cons] at h
    injection h with h3 h4
    have h5 : f = ⟨⟨#[]⟩, 0⟩ := by
      cases f
      simpa using h3
    have h6 : r = [] := by simpa using h4
    rw [h5, h6]
    rfl
end Go.Proofs.YtjfbcjmnjlehaaaDoor
