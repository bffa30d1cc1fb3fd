/-
  Items and their lines, as plain data: the document's way to a line's item; texts. Plain Lean; no program; no condition.
-/
import Derived.Test.YtjloddlkleileaaGreatDoorFeeN
namespace Go.Proofs.YtjloddlkleileaaGreatDoor
set_option linter.unusedVariables false
set_option linter.unusedSimpArgs false

theorem spl_two {c : UInt8} {f g : List UInt8} {r : List (List UInt8)} : ∀ {s : List UInt8}, spl c s = f :: g :: r → ∃ s', s = f ++ c :: s' ∧ spl c s' = g :: r ∧ c ∉ f
  | s, h => by
    by_cases hc : c ∈ s
    · obtain ⟨a, b, rfl, ha⟩ := first_at c s hc
      rw [spl_hit c b a ha] at h
      injection h with h1 h2
      subst h1
      exact ⟨b, rfl, h2, ha⟩
    · rw [spl_miss c s hc] at h
      injection h with h1 h2
      cases h2
theorem spl_one {c : UInt8} {f : List UInt8} {s : List UInt8} (h : spl c s = [f]) : s = f ∧ c ∉ f := by
  by_cases hc : c ∈ s
  · obtain ⟨a, b, rfl, ha⟩ := first_at c s hc
    rw [spl_hit c b a ha] at h
    injection h with h1 h2
    exact absurd h2 (spl_ne c b)
  · rw [spl_miss c s hc] at h
    injection h with h1 h2
    subst h1
    exact ⟨rfl, hc⟩
theorem spl_le (c : UInt8) : ∀ (s : List UInt8), ∀ f ∈ spl c s, f.length ≤ s.length
  | [], f, h => by
    simp only [spl, List.mem_singleton] at h
    subst h
    exact Nat.le_refl _
  | x :: r, f, h => by
    have ih := spl_le c r
    unfold spl at h
    split at h
    · rcases List.mem_cons.1 h with e | e
      · subst e; simp
      · have := ih f e; simp; omega
    · split at h
      · rename_i g t hg
        rcases List.mem_cons.1 h with e | e
        · subst e
          have := ih g (by rw [hg]; simp)
          simp; omega
        · have := ih f (by rw [hg]; simp [e])
          simp; omega
      · simp only [List.mem_singleton] at h
        subst h
        simp
theorem numV_space {t : List UInt8} (h : (32 : UInt8) ∈ t) : numV t = none := by
  cases hn : numV t with
  | none => rfl
  | some v =>
    obtain ⟨_, _, e⟩ := numV_some.1 hn
    rw [e] at h
    exact absurd h (itoa_plain v 32 (.inl rfl))
theorem numV_nil : numV [] = none := by
  cases hn : numV [] with
  | none => rfl
  | some v =>
    obtain ⟨_, _, e⟩ := numV_some.1 hn
    unfold Lib.itoa at e
    split at e
    · cases e
    · obtain ⟨c, r, hc, _⟩ := dec_head v.toNat
      rw [hc] at e
      cases e
/-- What a line is, if it is an item. -/
theorem itemL_some {l : List UInt8} {x : ItemV} (h : itemL l = some x) :
    (∃ t v, l = 77 :: 32 :: t ∧ numV t = some v ∧ x = ⟨true, v, 0, 0⟩) ∨ (∃ t k v a b, l = 69 :: 32 :: (t ++ 32 :: k :: 32 :: v) ∧ (32 : UInt8) ∉ t ∧ k ≠ 32 ∧ numV t = some a ∧ numV v = some b ∧ x = ⟨false, a, k, b⟩) := by
  unfold itemL at h
  split at h
  · rename_i m t hs
    split at h
    · rename_i hm
      subst hm
      obtain ⟨s', rfl, h2, _⟩ := spl_two hs
      obtain ⟨rfl, _⟩ := spl_one h2
      cases hn : numV s' with
      | none => rw [hn] at h; cases h
      | some v =>
        rw [hn] at h
        injection h with h
        exact .inl ⟨s', v, rfl, hn, h.symm⟩
    · cases h
  · rename_i e t k v hs
    split at h
    · rename_i hm
      subst hm
      split at h
      · rename_i y
        split at h
        · rename_i a b ha hb
          injection h with h
          obtain ⟨s1, rfl, h1, _⟩ := spl_two hs
          obtain ⟨s2, rfl, h2, h2n⟩ := spl_two h1
          obtain ⟨s3, rfl, h3, h3n⟩ := spl_two h2
          obtain ⟨rfl, _⟩ := spl_one h3
          exact .inr ⟨t, y, s3, a, b, by simp, h2n, fun e => h3n (by simp [e]), ha, hb, h.symm⟩
        · cases h
      · cases h
    · cases h
  · cases h
theorem itemL_M (t : List UInt8) : itemL (77 :: 32 :: t) = (numV t).map fun v => ⟨true, v, 0, 0⟩ := by
  cases hn : numV t with
  | some v =>
    have ht : (32 : UInt8) ∉ t := fun h => by rw [numV_space h] at hn; cases hn
    unfold itemL
    rw [show (77 :: 32 :: t : List UInt8) = [77] ++ 32 :: t from rfl, spl_hit 32 t [77] (by decide), spl_miss 32 t ht]
    simp only [if_true]
    rw [hn]
  | none =>
    cases hi : itemL (77 :: 32 :: t) with
    | none => rfl
    | some x =>
      rcases itemL_some hi with ⟨t', v, e, h, _⟩ | ⟨t', k, v, a, b, e, _⟩
      · injection e with _ e
        injection e with _ e
        subst e
        rw [hn] at h
        cases h
      · injection e with e _
        exact absurd e (by decide)
theorem itemL_E (t v : List UInt8) (k : UInt8) (ht : (32 : UInt8) ∉ t) (hk : k ≠ 32) : itemL (69 :: 32 :: (t ++ 32 :: k :: 32 :: v)) = match numV t, numV v with | some a, some b => some ⟨false, a, k, b⟩ | _, _ => none := by
  cases hn : numV v with
  | some b =>
    have hv : (32 : UInt8) ∉ v := fun h => by rw [numV_space h] at hn; cases hn
    unfold itemL
    rw [show (69 :: 32 :: (t ++ 32 :: k :: 32 :: v) : List UInt8) = [69] ++ 32 :: (t ++ 32 :: ([k] ++ 32 :: v)) from rfl, spl_hit 32 _ [69] (by decide), spl_hit 32 _ t ht, spl_hit 32 v [k] (by simpa using fun e => hk e.symm), spl_miss 32 v hv]
    simp only [if_true]
    rw [hn]
    cases numV t <;> rfl
  | none =>
    cases hi : itemL (69 :: 32 :: (t ++ 32 :: k :: 32 :: v)) with
    | none => cases numV t <;> rfl
    | some x =>
      rcases itemL_some hi with ⟨t', w, e, h, _⟩ | ⟨t', k', v', a, b, e, ht', hk', ha, hb, _⟩
      · injection e with e _
        exact absurd e (by decide)
      · injection e with _ e
        injection e with _ e
        have h1 := spl_hit 32 (k :: 32 :: v) t ht
        rw [e, spl_hit 32 (k' :: 32 :: v') t' ht'] at h1
        injection h1 with h1 h2
        subst h1
        have e2 := List.append_cancel_left e
        injection e2 with _ e2
        injection e2 with _ e2
        injection e2 with _ e2
        subst e2
        rw [hn] at hb
        cases hb
/-- A line that is none. -/
theorem itemL_none {l : List UInt8} (h1 : ∀ t, t ≠ [] → l ≠ 77 :: 32 :: t) (h2 : ∀ t k v, (32 : UInt8) ∉ t → k ≠ 32 → l ≠ 69 :: 32 :: (t ++ 32 :: k :: 32 :: v)) : itemL l = none := by
  cases hi : itemL l with
  | none => rfl
  | some x =>
    rcases itemL_some hi with ⟨t, v, e, h, _⟩ | ⟨t, k, v, a, b, e, ht, hk, _⟩
    · exact absurd e (h1 t fun e => by rw [e, numV_nil] at h; cases h)
    · exact absurd e (h2 t k v ht hk)
/-- A text's items; else how many stand ahead of the line at fault. -/
def parseF : Nat → List UInt8 → List ItemV → List ItemV ⊕ Nat
  | 0, _, out => .inr out.length
  | n + 1, s, out => if s = [] then .inl out else match Lib.cut s [10] with
    | (line, rest, whole) => match itemL line, whole with
      | some x, true => parseF n rest (out ++ [x])
      | _, _ => .inr out.length
def parseV (s : List UInt8) : List ItemV ⊕ Nat := parseF (s.length + 1) s []
/-- The text of items. -/
def showV (l : List ItemV) : List UInt8 := l.flatMap fun x => lineV x ++ [10]
/-- An item that can be told. -/
def Told (x : ItemV) : Prop := -maxN ≤ x.time ∧ x.time ≤ maxN ∧ -maxN ≤ x.val ∧ x.val ≤ maxN ∧ x.kind ≠ 32 ∧ x.kind ≠ 10 ∧ (x.mark = true → x.kind = 0 ∧ x.val = 0)
theorem lineV_item {x : ItemV} (h : Told x) : itemL (lineV x) = some x ∧ (10 : UInt8) ∉ lineV x := by
  obtain ⟨m, t, k, v⟩ := x
  obtain ⟨h1, h2, h3, h4, h5, h6, h7⟩ := h
  simp only at h1 h2 h3 h4 h5 h6 h7
  cases m with
  | true =>
    obtain ⟨rfl, rfl⟩ := h7 rfl
    have e : lineV ⟨true, t, 0, 0⟩ = 77 :: 32 :: Lib.itoa t := rfl
    rw [e]
    refine ⟨?_, fun hc => ?_⟩
    · rw [itemL_M, numV_some.2 ⟨h1, h2, rfl⟩]; rfl
    · simp only [List.mem_cons] at hc
      rcases hc with hc | hc | hc
      · exact absurd hc (by decide)
      · exact absurd hc (by decide)
      · exact itoa_plain t 10 (.inr rfl) hc
  | false =>
    have e : lineV ⟨false, t, k, v⟩ = 69 :: 32 :: (Lib.itoa t ++ 32 :: k :: 32 :: Lib.itoa v) := by simp [lineV]
    rw [e]
    refine ⟨?_, fun hc => ?_⟩
    · rw [itemL_E _ _ _ (itoa_plain t 32 (.inl rfl)) h5, numV_some.2 ⟨h1, h2, rfl⟩, numV_some.2 ⟨h3, h4, rfl⟩]
    · simp only [List.mem_cons, List.mem_append] at hc
      rcases hc with hc | hc | hc | hc | hc | hc | hc
      · exact absurd hc (by decide)
      · exact absurd hc (by decide)
      · exact itoa_plain t 10 (.inr rfl) hc
      · exact absurd hc (by decide)
      · exact h6 hc.symm
      · exact absurd hc (by decide)
      · exact itoa_plain v 10 (.inr rfl) hc
theorem item_lineV {l : List UInt8} {x : ItemV} (h : itemL l = some x) : lineV x = l := by
  rcases itemL_some h with ⟨t, v, rfl, h', rfl⟩ | ⟨t, k, v, a, b, rfl, ht, hk, ha, hb, rfl⟩
  · obtain ⟨_, _, rfl⟩ := numV_some.1 h'
    rfl
  · obtain ⟨_, _, rfl⟩ := numV_some.1 ha
    obtain ⟨_, _, rfl⟩ := numV_some.1 hb
    simp [lineV]
theorem parse_show : ∀ (n : Nat) (l out : List ItemV), (∀ x ∈ l, Told x) → l.length < n → parseF n (showV l) out = .inl (out ++ l)
  | 0, l, _, _, h => absurd h (Nat.not_lt_zero _)
  | n + 1, [], out, _, _ => by
    unfold parseF
    rw [if_pos (show showV [] = [] from rfl), List.append_nil]
  | n + 1, x :: l, out, hx, hn => by
    obtain ⟨h1, h2⟩ := lineV_item (hx x (by simp))
    have e : showV (x :: l) = lineV x ++ 10 :: showV l := by simp [showV]
    unfold parseF
    rw [e, if_neg (by simp), cut_hit 10 _ _ h2]
    simp only
    rw [h1]
    simp only
    rw [parse_show n l _ (fun y hy => hx y (by simp [hy])) (by simp at hn; omega)]
    simp
theorem show_parse : ∀ (n : Nat) (s : List UInt8) (out l : List ItemV), parseF n s out = .inl l → ∃ m, l = out ++ m ∧ showV m = s
  | 0, _, _, _, h => by cases h
  | n + 1, s, out, l, h => by
    unfold parseF at h
    split at h
    · rename_i hs
      injection h with h
      subst h hs
      exact ⟨[], by simp, rfl⟩
    · by_cases hc : (10 : UInt8) ∈ s
      · obtain ⟨a, b, rfl, ha⟩ := first_at 10 s hc
        rw [cut_hit 10 a b ha] at h
        simp only at h
        cases hi : itemL a with
        | none => rw [hi] at h; cases h
        | some x =>
          rw [hi] at h
          obtain ⟨m, rfl, hm⟩ := show_parse n b _ l h
          refine ⟨x :: m, by simp, ?_⟩
          have := item_lineV hi
          simp only [showV, List.flatMap_cons] at hm ⊢
          rw [hm, this]
          simp
      · rw [cut_miss 10 s hc] at h
        simp only at h
        cases hi : itemL s with
        | none => rw [hi] at h; cases h
        | some x => rw [hi] at h; cases h
end Go.Proofs.YtjloddlkleileaaGreatDoor
