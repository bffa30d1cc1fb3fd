/-
  What an edit makes of a version, by the program's way and by the document's: plain Lean over lists; no program; no condition.
-/
import Derived.Test.YtahahginmgidjaaVerM
namespace Go.Proofs.Ytahahginmgidjaa
set_option linter.unusedVariables false
set_option linter.unusedSimpArgs false

/-! ### The document's list -/
theorem insG_append_left {α : Type} {f : α → α → Bool} {x : α} : ∀ {l r : List α}, (∀ y ∈ l, f x y = false) → insG f x (l ++ r) = l ++ insG f x r
  | [], r, _ => rfl
  | y :: l, r, h => by
    show (if f x y = true then _ else y :: insG f x (l ++ r)) = y :: (l ++ insG f x r)
    rw [if_neg (by rw [h y (by simp)]; simp)]
    rw [insG_append_left (fun z hz => h z (by simp [hz]))]
theorem insG_append_right {α : Type} {f : α → α → Bool} {x : α} : ∀ {l r : List α}, (∀ y ∈ r, f x y = true) → insG f x (l ++ r) = insG f x l ++ r
  | [], [], _ => rfl
  | [], y :: r, h => by
    show (if f x y = true then _ else _) = _
    rw [if_pos (h y (by simp))]
    rfl
  | y :: l, r, h => by
    show (if f x y = true then _ else y :: insG f x (l ++ r)) = (if f x y = true then _ else _) ++ r
    split
    · rfl
    · rw [insG_append_right h]; rfl
theorem insG_map {α β : Type} {f : α → α → Bool} {g : β → β → Bool} (u : α → β) (h : ∀ a b, g (u a) (u b) = f a b) (x : α) : ∀ l : List α, insG g (u x) (l.map u) = (insG f x l).map u
  | [] => rfl
  | y :: l => by
    show (if g (u x) (u y) = true then _ else _) = ((if f x y = true then _ else _) : List α).map u
    rw [h]
    split
    · rfl
    · rw [insG_map u h x l]; rfl
theorem ahead_same (i : Nat) (a b : MetaV) : aheadV ⟨(i : Int), a⟩ ⟨(i : Int), b⟩ = before i a b := by
  unfold aheadV before
  simp only [ne_eq, not_true_eq_false, if_false]
  by_cases h : i = 0
  · simp [h]
  · have : ¬ (i : Int) = 0 := by omega
    simp [h, this]
theorem ahead_low {i k : Nat} (h : k < i) (a b : MetaV) : aheadV ⟨(i : Int), a⟩ ⟨(k : Int), b⟩ = false := by
  unfold aheadV
  have h1 : (i : Int) ≠ k := by omega
  rw [if_pos h1]
  simp; omega
theorem ahead_high {i k : Nat} (h : i < k) (a b : MetaV) : aheadV ⟨(i : Int), a⟩ ⟨(k : Int), b⟩ = true := by
  unfold aheadV
  have h1 : (i : Int) ≠ k := by omega
  rw [if_pos h1]
  simp; omega
def setLv (f : Nat → List MetaV) (i : Nat) (l : List MetaV) : Nat → List MetaV := fun k => if k = i then l else f k
def flatF (f : Nat → List MetaV) : List PlaceV := atLevel 0 (f 0) ++ (atLevel 1 (f 1) ++ (atLevel 2 (f 2) ++ atLevel 3 (f 3)))
theorem flat_eq (S : VerV) : flat S = flatF S.lv := rfl
theorem withV_flat (f : Nat → List MetaV) {i : Nat} (hi : i < 4) (m : MetaV) : withV (flatF f) ⟨(i : Int), m⟩ = flatF (setLv f i (insG (before i) m (f i))) := by
  have low : ∀ k, k < i → ∀ y ∈ atLevel k (f k), aheadV ⟨(i : Int), m⟩ y = false := fun k hk y hy => by
    obtain ⟨a, _, rfl⟩ := List.mem_map.1 hy
    exact ahead_low hk m a
  have high : ∀ k, i < k → ∀ y ∈ atLevel k (f k), aheadV ⟨(i : Int), m⟩ y = true := fun k hk y hy => by
    obtain ⟨a, _, rfl⟩ := List.mem_map.1 hy
    exact ahead_high hk m a
  have same : insG aheadV ⟨(i : Int), m⟩ (atLevel i (f i)) = atLevel i (insG (before i) m (f i)) := insG_map (u := fun a => (⟨(i : Int), a⟩ : PlaceV)) (ahead_same i) m (f i)
  unfold withV flatF
  match i, hi with
  | 0, _ =>
    rw [insG_append_right (fun y hy => by
      simp only [List.mem_append] at hy
      rcases hy with hy | hy | hy
      · exact high 1 (by omega) y hy
      · exact high 2 (by omega) y hy
      · exact high 3 (by omega) y hy), same]
    rfl
  | 1, _ =>
    rw [insG_append_left (low 0 (by omega)), insG_append_right (fun y hy => by
      simp only [List.mem_append] at hy
      rcases hy with hy | hy
      · exact high 2 (by omega) y hy
      · exact high 3 (by omega) y hy), same]
    rfl
  | 2, _ =>
    rw [insG_append_left (low 0 (by omega)), insG_append_left (low 1 (by omega)), insG_append_right (high 3 (by omega)), same]
    rfl
  | 3, _ =>
    rw [insG_append_left (low 0 (by omega)), insG_append_left (low 1 (by omega)), insG_append_left (low 2 (by omega)), same]
    rfl
theorem withV_all : ∀ (add : List PlaceV) (f : Nat → List MetaV), (∀ p ∈ add, 0 ≤ p.level ∧ p.level < 4) → add.foldl withV (flatF f) = flatF fun i => addTo i add (f i)
  | [], f, _ => rfl
  | p :: add, f, h => by
    obtain ⟨l, m⟩ := p
    obtain ⟨h0, h4⟩ := h ⟨l, m⟩ (by simp)
    simp only at h0 h4
    obtain ⟨i, rfl⟩ := Int.eq_ofNat_of_zero_le h0
    rw [List.foldl_cons, withV_flat f (by omega) m, withV_all add _ fun p hp => h p (by simp [hp])]
    congr 1
    funext k
    unfold addTo
    rw [List.foldl_cons]
    congr 1
    unfold setLv
    by_cases hk : k = i
    · subst hk; simp
    · have : ¬ ((i : Int) = (k : Int)) := by omega
      simp [hk, this]
theorem keptP_append (d : List Int) (a b : List PlaceV) : keptP d (a ++ b) = keptP d a ++ keptP d b := List.filter_append ..
theorem keptP_level (d : List Int) (i : Nat) (l : List MetaV) : keptP d (atLevel i l) = atLevel i (kept d l) := by
  unfold keptP atLevel kept
  rw [List.filter_map]
  rfl
theorem keptP_flat (d : List Int) (f : Nat → List MetaV) : keptP d (flatF f) = flatF fun i => kept d (f i) := by
  unfold flatF
  rw [keptP_append, keptP_append, keptP_append, keptP_level, keptP_level, keptP_level, keptP_level]
/-- The document's list behind an edit. -/
theorem doc_next (S : VerV) (E : EditV) (h : ∀ p ∈ E.add, 0 ≤ p.level ∧ p.level < 4) : E.add.foldl withV (keptP E.drop (flat S)) = flat (nextV S E) := by
  rw [flat_eq, keptP_flat, withV_all _ _ h]
  rfl
/-- .. no two tables of a level from 1 on with a key in common: the document's way to ask. -/
def clash (a b : PlaceV) : Prop := a.level > 0 ∧ a.level = b.level ∧ sl b.m.hi a.m.lo = false ∧ sl a.m.hi b.m.lo = false
theorem apart_of {a b : PlaceV} (h0 : a.level > 0) (he : a.level = b.level) : ¬ clash a b ↔ Apart b.m a.m := by
  unfold clash Apart
  constructor
  · intro h
    cases h1 : sl b.m.hi a.m.lo with
    | true => exact .inl rfl
    | false =>
      cases h2 : sl a.m.hi b.m.lo with
      | true => exact .inr rfl
      | false => exact absurd ⟨h0, he, h1, h2⟩ h
  · rintro (h | h) ⟨_, _, h1, h2⟩
    · rw [h] at h1; cases h1
    · rw [h] at h2; cases h2
theorem level_pairs (i : Nat) (hi : 1 ≤ i) (l : List MetaV) : (atLevel i l).Pairwise (fun b a => ¬ clash a b) ↔ l.Pairwise Apart := by
  unfold atLevel
  rw [List.pairwise_map]
  constructor <;> intro h <;> refine h.imp fun {a b} hab => ?_
  · exact (apart_of (a := ⟨(i : Int), b⟩) (b := ⟨(i : Int), a⟩) (by simp; omega) rfl).1 hab
  · exact (apart_of (a := ⟨(i : Int), b⟩) (b := ⟨(i : Int), a⟩) (by simp; omega) rfl).2 hab
theorem level_zero (l : List MetaV) : (atLevel 0 l).Pairwise (fun b a => ¬ clash a b) := by
  unfold atLevel
  rw [List.pairwise_map]
  exact List.pairwise_of_forall fun a b h => by have := h.1; simp at this
theorem level_other {i k : Nat} (h : i ≠ k) {l m : List MetaV} : ∀ b ∈ atLevel i l, ∀ a ∈ atLevel k m, ¬ clash a b := fun b hb a ha hc => by
  obtain ⟨x, _, rfl⟩ := List.mem_map.1 hb
  obtain ⟨y, _, rfl⟩ := List.mem_map.1 ha
  have := hc.2.1
  simp at this; omega
theorem flat_pairs (f : Nat → List MetaV) : (flatF f).Pairwise (fun b a => ¬ clash a b) ↔ ∀ i, 1 ≤ i → i < 4 → (f i).Pairwise Apart := by
  unfold flatF
  rw [List.pairwise_append, List.pairwise_append, List.pairwise_append, level_pairs 1 (by omega), level_pairs 2 (by omega), level_pairs 3 (by omega)]
  constructor
  · rintro ⟨_, ⟨h1, ⟨h2, h3, _⟩, _⟩, _⟩ i hi1 hi4
    match i, hi1, hi4 with
    | 1, _, _ => exact h1
    | 2, _, _ => exact h2
    | 3, _, _ => exact h3
  · intro h
    refine ⟨level_zero _, ⟨h 1 (by omega) (by omega), ⟨h 2 (by omega) (by omega), h 3 (by omega) (by omega), level_other (by omega)⟩, ?_⟩, ?_⟩
    · intro b hb a ha
      rcases List.mem_append.1 ha with ha | ha
      · exact level_other (by omega) b hb a ha
      · exact level_other (by omega) b hb a ha
    · intro b hb a ha
      rcases List.mem_append.1 ha with ha | ha
      · exact level_other (by omega) b hb a ha
      · rcases List.mem_append.1 ha with ha | ha
        · exact level_other (by omega) b hb a ha
        · exact level_other (by omega) b hb a ha

/-! ### What is added to a level -/
def added (i : Nat) (add : List PlaceV) : List MetaV := (add.filter fun p => decide (p.level = (i : Int))).map (·.m)
theorem addTo_perm (i : Nat) : ∀ (add : List PlaceV) (l : List MetaV), (addTo i add l).Perm (l ++ added i add)
  | [], l => by simp [addTo, added]
  | p :: add, l => by
    unfold addTo
    rw [List.foldl_cons]
    by_cases h : p.level = (i : Int)
    · rw [if_pos h]
      refine (addTo_perm i add _).trans ?_
      have : added i (p :: add) = p.m :: added i add := by simp [added, h]
      rw [this]
      refine ((insG_perm p.m l).append_right _).trans ?_
      exact List.perm_middle.symm
    · rw [if_neg h]
      have : added i (p :: add) = added i add := by simp [added, h]
      rw [this]
      exact addTo_perm i add l
theorem addTo_sorted (i : Nat) : ∀ (add : List PlaceV) (l : List MetaV), Sorted (before i) l → Sorted (before i) (addTo i add l)
  | [], l, h => h
  | p :: add, l, h => by
    unfold addTo
    rw [List.foldl_cons]
    refine addTo_sorted i add _ ?_
    split
    · exact insG_sorted (before_trans i) (before_ntrans i) (before_irrefl i) _ _ h
    · exact h
theorem kept_sub (d : List Int) (l : List MetaV) : (kept d l).Sublist l := List.filter_sublist
theorem Good.sorted {S : VerV} (h : Good S) {i : Nat} (hi : i < 4) : Sorted (before i) (S.lv i) := by
  by_cases h0 : i = 0
  · subst h0
    exact h.zero.imp fun {a b} hab => by simp [before]; omega
  · refine (h.rest i (by omega) hi).imp_of_mem fun {a b} ha hb hab => ?_
    unfold before
    rw [if_neg h0]
    cases hc : sl b.lo a.lo with
    | false => rfl
    | true =>
      have h1 := (h.ends i hi a ha).1
      have := sl_trans hab hc
      rw [h1] at this; cases this
theorem next_perm (S : VerV) (E : EditV) (i : Nat) : ((nextV S E).lv i).Perm (kept E.drop (S.lv i) ++ added i E.add) := addTo_perm i E.add _
theorem next_sorted {S : VerV} (h : Good S) (E : EditV) {i : Nat} (hi : i < 4) : Sorted (before i) ((nextV S E).lv i) := addTo_sorted i E.add _ ((h.sorted hi).sublist (kept_sub _ _))

/-- A sorted list in which each table ends ahead of the next one's beginning. -/
def AdjOk (l : List MetaV) : Prop := ∀ i a b, l[i]? = some a → l[i + 1]? = some b → sl a.hi b.lo = true
theorem adj_of_apart {l : List MetaV} {i : Nat} (hi : i ≠ 0) (hs : Sorted (before i) l) (he : ∀ m ∈ l, sl m.hi m.lo = false) (hp : l.Pairwise Apart) : l.Pairwise fun a b => sl a.hi b.lo = true := by
  refine List.Pairwise.imp_of_mem (R := fun a b => before i b a = false ∧ Apart a b) (fun {a b} ha hb hab => ?_) (List.pairwise_and_iff.2 ⟨hs, hp⟩)
  obtain ⟨h1, h2⟩ := hab
  rcases h2 with h2 | h2
  · exact h2
  · exfalso
    unfold before at h1
    rw [if_neg hi] at h1
    have := sl_le_lt (he b hb) h2
    rw [h1] at this; cases this
theorem AdjOk.tail {a : MetaV} {l : List MetaV} (h : AdjOk (a :: l)) : AdjOk l := fun i x y hx hy => h (i + 1) x y (by simpa using hx) (by simpa using hy)
theorem AdjOk.pairs : ∀ {l : List MetaV}, (∀ m ∈ l, sl m.hi m.lo = false) → AdjOk l → l.Pairwise fun a b => sl a.hi b.lo = true
  | [], _, _ => List.Pairwise.nil
  | [a], _, _ => by simp
  | a :: b :: l, he, h => by
    have ih := AdjOk.pairs (fun m hm => he m (List.mem_cons_of_mem _ hm)) h.tail
    have hab : sl a.hi b.lo = true := h 0 a b rfl rfl
    refine List.pairwise_cons.2 ⟨fun c hc => ?_, ih⟩
    rcases List.mem_cons.1 hc with rfl | hc
    · exact hab
    · have := (List.pairwise_cons.1 ih).1 c hc
      exact sl_trans (sl_lt_le hab (he b (by simp))) this
theorem adj_of_pairs {l : List MetaV} (h : l.Pairwise fun a b => sl a.hi b.lo = true) : AdjOk l := fun i a b ha hb => by
  obtain ⟨h1, rfl⟩ := List.getElem?_eq_some_iff.1 ha
  obtain ⟨h2, rfl⟩ := List.getElem?_eq_some_iff.1 hb
  exact List.pairwise_iff_getElem.1 h i (i + 1) h1 h2 (by omega)

/-! ### The program's way: a level sorted, whichever way -/
theorem ends_pre {S : VerV} {E : EditV} (h : Good S) (ho : okV S E) {i : Nat} (hi : i < 4) : ∀ m ∈ kept E.drop (S.lv i) ++ added i E.add, sl m.hi m.lo = false ∧ 0 ≤ m.file ∧ m.file < E.next := fun m hm => by
  rcases List.mem_append.1 hm with hm | hm
  · obtain ⟨h1, h2, h3⟩ := h.ends i hi m ((kept_sub _ _).subset hm)
    have := ho.1.1
    exact ⟨h1, h2, by omega⟩
  · obtain ⟨p, hp, rfl⟩ := List.mem_map.1 hm
    have hp' : p ∈ E.add := (List.mem_filter.1 hp).1
    obtain ⟨_, _, g2, g3, _, g5⟩ := (ho.2.2.1.1 p hp').1
    exact ⟨g5, g2, g3⟩
theorem apart_perm {l m : List MetaV} (h : l.Perm m) : l.Pairwise Apart ↔ m.Pairwise Apart := h.pairwise_iff fun h => Apart.symm h
/-- A level from 1 on, sorted whichever way, is asked: is each table's end ahead of the next one's beginning? -/
theorem level_asked {i : Nat} (hi : i ≠ 0) {l m : List MetaV} (hp : l.Perm m) (hs : Sorted (before i) l) (he : ∀ x ∈ l, sl x.hi x.lo = false) : AdjOk l ↔ m.Pairwise Apart := by
  rw [← apart_perm hp]
  constructor
  · intro h
    exact (h.pairs he).imp fun {a b} h => .inl h
  · intro h
    exact adj_of_pairs (adj_of_apart hi hs he h)
theorem level_rest {i : Nat} (hi : i ≠ 0) {l m : List MetaV} (hp : l.Perm m) (hs : Sorted (before i) l) (hsm : Sorted (before i) m) (he : ∀ x ∈ l, sl x.hi x.lo = false) (ha : m.Pairwise Apart) : l = m := by
  have hem : ∀ x ∈ m, sl x.hi x.lo = false := fun x hx => he x (hp.mem_iff.2 hx)
  have strict : ∀ {l : List MetaV}, (∀ x ∈ l, sl x.hi x.lo = false) → (l.Pairwise fun a b => sl a.hi b.lo = true) → l.Pairwise fun a b => sl a.lo b.lo = true := fun he h => h.imp_of_mem fun {a b} ha hb hab => sl_le_lt (he a ha) hab
  exact strict_unique (f := fun a b : MetaV => sl a.lo b.lo) (fun a => sl_irrefl _) (fun a b c => sl_trans) hp (strict he (adj_of_apart hi hs he ((apart_perm hp).2 ha))) (strict hem (adj_of_apart hi hsm hem ha))
theorem level_first {l m : List MetaV} (hp : l.Perm m) (hs : Sorted (before 0) l) (hsm : Sorted (before 0) m) (hn : (m.map (·.file)).Nodup) : l = m := by
  have strict : ∀ {l : List MetaV}, (l.map (·.file)).Nodup → Sorted (before 0) l → l.Pairwise fun a b => before 0 a b = true := fun hn hs => by
    have h1 := List.pairwise_map.1 hn
    refine (List.pairwise_and_iff.2 ⟨hs, h1⟩).imp fun {a b} h => ?_
    have := h.1
    have h2 := h.2
    simp [before] at this ⊢
    omega
  exact strict_unique (before_irrefl 0) (before_trans 0) hp (strict ((hp.map _).nodup_iff.2 hn) hs) (strict hn hsm)

/-! ### Good versions stay good -/
theorem flatF_perm {f g : Nat → List MetaV} (h : ∀ i, i < 4 → (f i).Perm (g i)) : (flatF f).Perm (flatF g) :=
  ((h 0 (by omega)).map _).append (((h 1 (by omega)).map _).append (((h 2 (by omega)).map _).append ((h 3 (by omega)).map _)))
theorem mem_flatF {f : Nat → List MetaV} {p : PlaceV} : p ∈ flatF f ↔ ∃ i, i < 4 ∧ ∃ m ∈ f i, p = ⟨(i : Int), m⟩ := by
  unfold flatF atLevel
  simp only [List.mem_append, List.mem_map]
  constructor
  · rintro (⟨m, hm, rfl⟩ | ⟨m, hm, rfl⟩ | ⟨m, hm, rfl⟩ | ⟨m, hm, rfl⟩)
    · exact ⟨0, by omega, m, hm, rfl⟩
    · exact ⟨1, by omega, m, hm, rfl⟩
    · exact ⟨2, by omega, m, hm, rfl⟩
    · exact ⟨3, by omega, m, hm, rfl⟩
  · rintro ⟨i, hi, m, hm, rfl⟩
    match i, hi with
    | 0, _ => exact .inl ⟨m, hm, rfl⟩
    | 1, _ => exact .inr (.inl ⟨m, hm, rfl⟩)
    | 2, _ => exact .inr (.inr (.inl ⟨m, hm, rfl⟩))
    | 3, _ => exact .inr (.inr (.inr ⟨m, hm, rfl⟩))
theorem flat_parted (d : List Int) (f g : Nat → List MetaV) : (flatF fun i => f i ++ g i).Perm (flatF f ++ flatF g) := by
  unfold flatF atLevel
  simp only [List.map_append]
  generalize List.map _ (f 0) = a0; generalize List.map _ (g 0) = b0
  generalize List.map _ (f 1) = a1; generalize List.map _ (g 1) = b1
  generalize List.map _ (f 2) = a2; generalize List.map _ (g 2) = b2
  generalize List.map _ (f 3) = a3; generalize List.map _ (g 3) = b3
  have swap : ∀ (a b c d : List PlaceV), (a ++ b ++ (c ++ d)).Perm (a ++ c ++ (b ++ d)) := fun a b c d => by
    rw [List.append_assoc, List.append_assoc]
    refine List.Perm.append_left a ?_
    rw [← List.append_assoc, ← List.append_assoc]
    exact List.perm_append_comm.append_right d
  refine ((((swap a2 b2 a3 b3)).append_left (a1 ++ b1)).append_left (a0 ++ b0)).trans ?_
  refine ((swap a1 b1 (a2 ++ a3) (b2 ++ b3)).append_left (a0 ++ b0)).trans ?_
  exact swap a0 b0 (a1 ++ (a2 ++ a3)) (b1 ++ (b2 ++ b3))
theorem filter_levels : ∀ (add : List PlaceV), (∀ p ∈ add, 0 ≤ p.level ∧ p.level < 4) → (filesOf (flatF fun i => added i add)).Perm (filesOf add)
  | [], _ => by simp [filesOf, flatF, added, atLevel]
  | p :: add, h => by
    obtain ⟨l, m⟩ := p
    obtain ⟨h0, h4⟩ := h ⟨l, m⟩ (by simp)
    simp only at h0 h4
    obtain ⟨i, rfl⟩ := Int.eq_ofNat_of_zero_le h0
    have ih := filter_levels add fun p hp => h p (by simp [hp])
    have e : ∀ k, added k (⟨(i : Int), m⟩ :: add) = (if k = i then [m] else []) ++ added k add := fun k => by
      unfold added
      by_cases hk : k = i
      · subst hk; simp
      · have : ¬ ((i : Int) = (k : Int)) := by omega
        simp [hk, this]
    have hf : (flatF fun k => added k (⟨(i : Int), m⟩ :: add)) = flatF fun k => (if k = i then [m] else []) ++ added k add := by
      congr 1; funext k; exact e k
    rw [hf]
    have hp := (flat_parted [] (fun k => if k = i then [m] else []) (fun k => added k add)).map (fun p : PlaceV => p.m.file)
    refine hp.trans ?_
    rw [List.map_append]
    have h1 : (flatF fun k => if k = i then [m] else []).map (fun p : PlaceV => p.m.file) = [m.file] := by
      unfold flatF atLevel
      match i, h4 with
      | 0, _ => rfl
      | 1, _ => rfl
      | 2, _ => rfl
      | 3, _ => rfl
    rw [h1]
    show (m.file :: _).Perm (m.file :: _)
    exact ih.cons _
theorem next_files {S : VerV} {E : EditV} (hl : ∀ p ∈ E.add, 0 ≤ p.level ∧ p.level < 4) : (filesOf (flat (nextV S E))).Perm (filesOf (keptP E.drop (flat S)) ++ filesOf E.add) := by
  rw [flat_eq, flat_eq, keptP_flat]
  refine ((flatF_perm fun i hi => next_perm S E i).map _).trans ?_
  refine ((flat_parted [] _ _).map _).trans ?_
  rw [List.map_append]
  exact (filter_levels E.add hl).append_left _
theorem ok_levels {S : VerV} {E : EditV} (ho : okV S E) : ∀ p ∈ E.add, 0 ≤ p.level ∧ p.level < 4 := fun p hp => ⟨(ho.2.2.1.1 p hp).1.1, (ho.2.2.1.1 p hp).1.2.1⟩
theorem next_nodup {S : VerV} {E : EditV} (h : Good S) (ho : okV S E) : (filesOf (flat (nextV S E))).Nodup := by
  rw [(next_files (ok_levels ho)).nodup_iff, List.nodup_append]
  have hsub : (filesOf (keptP E.drop (flat S))).Sublist (filesOf (flat S)) := List.filter_sublist.map _
  refine ⟨h.files.sublist hsub, ho.2.2.1.2, fun a ha b hb e => ?_⟩
  subst e
  obtain ⟨p, hp, rfl⟩ := List.mem_map.1 hb
  exact (ho.2.2.1.1 p hp).2 (hsub.subset ha)
theorem level_nodup {S : VerV} (h : (filesOf (flat S)).Nodup) : ((S.lv 0).map (·.file)).Nodup := by
  have : ((S.lv 0).map (·.file)).Sublist (filesOf (flat S)) := by
    unfold filesOf flat
    rw [List.map_append]
    have : (List.map (fun p : PlaceV => p.m.file) (atLevel 0 (S.lv 0))) = (S.lv 0).map (·.file) := by simp [atLevel]
    rw [this]
    exact List.sublist_append_left _ _
  exact h.sublist this
theorem Good.next {S : VerV} {E : EditV} (h : Good S) (ho : okV S E) : Good (nextV S E) := by
  have hn := next_nodup h ho
  have he : ∀ i, i < 4 → ∀ m ∈ (nextV S E).lv i, sl m.hi m.lo = false ∧ 0 ≤ m.file ∧ m.file < E.next := fun i hi m hm => ends_pre h ho hi m ((next_perm S E i).mem_iff.1 hm)
  refine ⟨hn, ?_, fun i h1 h4 => ?_, he, ?_⟩
  · have h1 := List.pairwise_map.1 (level_nodup hn)
    refine (List.pairwise_and_iff.2 ⟨next_sorted h E (i := 0) (by omega), h1⟩).imp fun {a b} h => ?_
    have := h.1
    have h2 := h.2
    simp [before] at this
    omega
  · exact adj_of_apart (by omega) (next_sorted h E h4) (fun m hm => (he i h4 m hm).1) (ho.2.2.2 i h1 h4)
  · have := ho.1.2
    show E.log < E.next ∨ E.log = 0 ∧ E.next = 0
    omega
end Go.Proofs.Ytahahginmgidjaa
