/-
  The bytes of an edit: no more tables than bytes. Plain lemmas; no condition.
-/
import Derived.Test.YtahahginmgidjaaGreatDoorZVarI
namespace Go.Proofs.YtahahginmgidjaaGreatDoor
open Go.RowKit
set_option linter.unusedVariables false
set_option linter.unusedSimpArgs false

theorem belowV_le {s : List UInt8} {k : Nat} {most n : Int} {j : Nat} (hk : k ≤ s.length) (h : belowV s k most = .inl (n, j)) : k < j ∧ j ≤ s.length := by
  unfold belowV at h
  cases h1 : getV s k with
  | inr c => rw [h1] at h; cases h
  | inl x =>
    obtain ⟨m, j'⟩ := x
    rw [h1] at h
    simp only at h
    split at h
    · cases h
    · injection h with h
      injection h with _ h
      subst h
      exact getV_le hk h1
theorem placeV_le {s : List UInt8} {k : Nat} {p : PlaceV} {j : Nat} (hk : k ≤ s.length) (h : placeV s k = .inl (p, j)) : k < j ∧ j ≤ s.length := by
  unfold placeV at h
  cases h1 : belowV s k 4 with
  | inr c => rw [h1] at h; cases h
  | inl x1 =>
    obtain ⟨l, k1⟩ := x1
    rw [h1] at h
    simp only at h
    have g1 := belowV_le hk h1
    cases h2 : getV s k1 with
    | inr c => rw [h2] at h; cases h
    | inl x2 =>
      obtain ⟨f, k2⟩ := x2
      rw [h2] at h
      simp only at h
      have g2 := getV_le g1.2 h2
      cases h3 : getV s k2 with
      | inr c => rw [h3] at h; cases h
      | inl x3 =>
        obtain ⟨z, k3⟩ := x3
        rw [h3] at h
        simp only at h
        have g3 := getV_le g2.2 h3
        cases h4 : textV s k3 with
        | inr c => rw [h4] at h; cases h
        | inl x4 =>
          obtain ⟨lo, k4⟩ := x4
          rw [h4] at h
          simp only at h
          have g4 := textV_le g3.2 h4
          cases h5 : textV s k4 with
          | inr c => rw [h5] at h; cases h
          | inl x5 =>
            obtain ⟨hi, k5⟩ := x5
            rw [h5] at h
            simp only at h
            injection h with h
            injection h with _ h
            subst h
            have g5 := textV_le g4.2.1 h5
            omega
theorem addsV_le {s : List UInt8} : ∀ (n k : Nat) (acc ad : List PlaceV) (j : Nat), k ≤ s.length → addsV s n k acc = .inl (ad, j) → ad.length + k ≤ acc.length + j ∧ j ≤ s.length
  | 0, k, acc, ad, j, hk, h => by
    rw [addsV] at h
    injection h with h
    injection h with h1 h2
    subst h1 h2
    exact ⟨Nat.le_refl _, hk⟩
  | n + 1, k, acc, ad, j, hk, h => by
    rw [addsV_step] at h
    cases hv : placeV s k with
    | inr c => rw [hv] at h; cases h
    | inl x =>
      obtain ⟨p, k1⟩ := x
      rw [hv] at h
      have g := placeV_le hk hv
      have := addsV_le n k1 (acc ++ [p]) ad j g.2 h
      simp at this
      omega
theorem dropsV_le {s : List UInt8} : ∀ (n k : Nat) (acc dr : List Int) (j : Nat), k ≤ s.length → dropsV s n k acc = .inl (dr, j) → j ≤ s.length
  | 0, k, acc, dr, j, hk, h => by
    rw [dropsV] at h
    injection h with h
    injection h with h1 h2
    subst h2
    exact hk
  | n + 1, k, acc, dr, j, hk, h => by
    rw [dropsV_step] at h
    cases hv : getV s k with
    | inr c => rw [hv] at h; cases h
    | inl x =>
      obtain ⟨f, k1⟩ := x
      rw [hv] at h
      exact dropsV_le n k1 (acc ++ [f]) dr j (getV_le hk hv).2 h
theorem editV_adds {s : List UInt8} {E : EditV} (h : editV s = .inl E) : E.add.length ≤ s.length := by
  unfold editV at h
  cases h1 : getV s 0 with
  | inr c => rw [h1] at h; cases h
  | inl x1 =>
    obtain ⟨log, k1⟩ := x1
    rw [h1] at h
    simp only [ed2] at h
    have g1 := getV_le (Nat.zero_le _) h1
    cases h2 : getV s k1 with
    | inr c => rw [h2] at h; cases h
    | inl x2 =>
      obtain ⟨next, k2⟩ := x2
      rw [h2] at h
      simp only [ed3] at h
      have g2 := getV_le g1.2 h2
      cases h3 : getV s k2 with
      | inr c => rw [h3] at h; cases h
      | inl x3 =>
        obtain ⟨seq, k3⟩ := x3
        rw [h3] at h
        simp only [ed4] at h
        have g3 := getV_le g2.2 h3
        cases h4 : belowV s k3 4097 with
        | inr c => rw [h4] at h; cases h
        | inl x4 =>
          obtain ⟨n, k4⟩ := x4
          rw [h4] at h
          simp only [ed5] at h
          have g4 := belowV_le g3.2 h4
          cases h5 : dropsV s n.toNat k4 [] with
          | inr c => rw [h5] at h; cases h
          | inl x5 =>
            obtain ⟨dr, k5⟩ := x5
            rw [h5] at h
            simp only [ed6] at h
            have g5 := dropsV_le _ _ _ _ _ g4.2 h5
            cases h6 : belowV s k5 4097 with
            | inr c => rw [h6] at h; cases h
            | inl x6 =>
              obtain ⟨m, k6⟩ := x6
              rw [h6] at h
              simp only [ed7] at h
              have g6 := belowV_le g5 h6
              cases h7 : addsV s m.toNat k6 [] with
              | inr c => rw [h7] at h; cases h
              | inl x7 =>
                obtain ⟨ad, k7⟩ := x7
                rw [h7] at h
                simp only at h
                have g7 := addsV_le _ _ _ _ _ g6.2 h7
                split at h
                · cases h
                · injection h with h
                  subst h
                  show ad.length ≤ _
                  simp at g7
                  omega
theorem dropsV_fit {s : List UInt8} : ∀ (n k : Nat) (acc dr : List Int) (j : Nat), dropsV s n k acc = .inl (dr, j) → (∀ x ∈ acc, In64 x) → (∀ x ∈ dr, In64 x) ∧ dr.length = acc.length + n
  | 0, k, acc, dr, j, h, ha => by
    rw [dropsV] at h
    injection h with h
    injection h with h1 h2
    subst h1
    exact ⟨ha, rfl⟩
  | n + 1, k, acc, dr, j, h, ha => by
    rw [dropsV_step] at h
    cases hv : getV s k with
    | inr c => rw [hv] at h; cases h
    | inl x =>
      rw [hv] at h
      obtain ⟨h1, h2⟩ := dropsV_fit n x.2 (acc ++ [x.1]) dr j h (fun y hy => by
        rcases List.mem_append.1 hy with hy | hy
        · exact ha y hy
        · simp at hy
          subst hy
          exact getV_in hv)
      exact ⟨h1, by rw [h2]; simp; omega⟩
def PFit (p : PlaceV) : Prop := In64 p.level ∧ In64 p.m.file ∧ In64 p.m.size ∧ p.m.lo.size ≤ 1048576 ∧ p.m.hi.size ≤ 1048576
theorem textV_small {s : List UInt8} {k : Nat} {t : List UInt8} {j : Nat} (h : textV s k = .inl (t, j)) : t.length ≤ 65535 := by
  unfold textV at h
  split at h
  · cases h
  · split at h
    · cases h
    split at h
    · cases h
    split at h
    · cases h
    · injection h with h
      injection h with h _
      subst h
      rw [List.length_take]
      omega
theorem belowV_rng {s : List UInt8} {k : Nat} {most n : Int} {j : Nat} (h : belowV s k most = .inl (n, j)) : 0 ≤ n ∧ n < most := by
  unfold belowV at h
  split at h
  · split at h
    · cases h
    · injection h with h
      injection h with h _
      subst h
      omega
  · cases h
theorem placeV_fit {s : List UInt8} {k : Nat} {p : PlaceV} {j : Nat} (h : placeV s k = .inl (p, j)) : PFit p := by
  unfold placeV at h
  cases h1 : belowV s k 4 with
  | inr c => rw [h1] at h; cases h
  | inl x1 =>
    obtain ⟨l, k1⟩ := x1
    rw [h1] at h
    simp only at h
    cases h2 : getV s k1 with
    | inr c => rw [h2] at h; cases h
    | inl x2 =>
      obtain ⟨f, k2⟩ := x2
      rw [h2] at h
      simp only at h
      cases h3 : getV s k2 with
      | inr c => rw [h3] at h; cases h
      | inl x3 =>
        obtain ⟨z, k3⟩ := x3
        rw [h3] at h
        simp only at h
        cases h4 : textV s k3 with
        | inr c => rw [h4] at h; cases h
        | inl x4 =>
          obtain ⟨lo, k4⟩ := x4
          rw [h4] at h
          simp only at h
          cases h5 : textV s k4 with
          | inr c => rw [h5] at h; cases h
          | inl x5 =>
            obtain ⟨hi, k5⟩ := x5
            rw [h5] at h
            simp only at h
            injection h with h
            injection h with h h'
            subst h
            have b1 := belowV_rng h1
            have t1 := textV_small h4
            have t2 := textV_small h5
            refine ⟨⟨by simp only; omega, by simp only; omega⟩, getV_in h2, getV_in h3, ?_, ?_⟩
            · show lo.toArray.size ≤ _
              rw [List.size_toArray]; omega
            · show hi.toArray.size ≤ _
              rw [List.size_toArray]; omega
theorem addsV_fit {s : List UInt8} : ∀ (n k : Nat) (acc ad : List PlaceV) (j : Nat), addsV s n k acc = .inl (ad, j) → (∀ x ∈ acc, PFit x) → (∀ x ∈ ad, PFit x) ∧ ad.length = acc.length + n
  | 0, k, acc, ad, j, h, ha => by
    rw [addsV] at h
    injection h with h
    injection h with h1 h2
    subst h1
    exact ⟨ha, rfl⟩
  | n + 1, k, acc, ad, j, h, ha => by
    rw [addsV_step] at h
    cases hv : placeV s k with
    | inr c => rw [hv] at h; cases h
    | inl x =>
      rw [hv] at h
      obtain ⟨h1, h2⟩ := addsV_fit n x.2 (acc ++ [x.1]) ad j h (fun y hy => by
        rcases List.mem_append.1 hy with hy | hy
        · exact ha y hy
        · simp at hy
          subst hy
          exact placeV_fit hv)
      exact ⟨h1, by rw [h2]; simp; omega⟩
theorem editV_fit {s : List UInt8} {E : EditV} (h : editV s = .inl E) : EdFit E ∧ E.drop.length ≤ 4096 ∧ E.add.length ≤ 4096 := by
  unfold editV at h
  cases h1 : getV s 0 with
  | inr c => rw [h1] at h; cases h
  | inl x1 =>
    obtain ⟨log, k1⟩ := x1
    rw [h1] at h
    simp only [ed2] at h
    cases h2 : getV s k1 with
    | inr c => rw [h2] at h; cases h
    | inl x2 =>
      obtain ⟨next, k2⟩ := x2
      rw [h2] at h
      simp only [ed3] at h
      cases h3 : getV s k2 with
      | inr c => rw [h3] at h; cases h
      | inl x3 =>
        obtain ⟨seq, k3⟩ := x3
        rw [h3] at h
        simp only [ed4] at h
        cases h4 : belowV s k3 4097 with
        | inr c => rw [h4] at h; cases h
        | inl x4 =>
          obtain ⟨n, k4⟩ := x4
          rw [h4] at h
          simp only [ed5] at h
          cases h5 : dropsV s n.toNat k4 [] with
          | inr c => rw [h5] at h; cases h
          | inl x5 =>
            obtain ⟨dr, k5⟩ := x5
            rw [h5] at h
            simp only [ed6] at h
            cases h6 : belowV s k5 4097 with
            | inr c => rw [h6] at h; cases h
            | inl x6 =>
              obtain ⟨m, k6⟩ := x6
              rw [h6] at h
              simp only [ed7] at h
              cases h7 : addsV s m.toNat k6 [] with
              | inr c => rw [h7] at h; cases h
              | inl x7 =>
                obtain ⟨ad, k7⟩ := x7
                rw [h7] at h
                simp only at h
                split at h
                · cases h
                · injection h with h
                  subst h
                  obtain ⟨d1, d2⟩ := dropsV_fit _ _ _ _ _ h5 (by simp)
                  obtain ⟨a1, a2⟩ := addsV_fit _ _ _ _ _ h7 (by simp)
                  have b1 := belowV_rng h4
                  have b2 := belowV_rng h6
                  simp at d2 a2
                  exact ⟨⟨getV_in h1, getV_in h2, getV_in h3, d1, a1, by simp only; omega, by simp only; omega⟩, by simp only; omega, by simp only; omega⟩
end Go.Proofs.YtahahginmgidjaaGreatDoor
