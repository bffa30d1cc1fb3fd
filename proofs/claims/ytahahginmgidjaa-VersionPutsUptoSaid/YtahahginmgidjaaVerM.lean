/-
  The plain model of a version: tables in four levels, edits, what an edit makes of a version; and of the document's version: one list. Plain Lean over lists; no program; no condition.
-/
import Derived.WalkKit
import Derived.WalkLawsBesides
import Derived.Sort.Walk0
namespace Go.Proofs.Ytahahginmgidjaa
set_option linter.unusedVariables false
set_option linter.unusedSimpArgs false

/-! ### The order of strings -/
/-- a < b. -/
def sl (a b : ByteArray) : Bool := Op.bytesLess a.toList b.toList
theorem toList_inj {a b : ByteArray} (h : a.toList = b.toList) : a = b := by
  rw [ByteArray.toList_eq, ByteArray.toList_eq] at h
  cases a; cases b; simp at h; subst h; rfl
theorem sl_eq (a b : ByteArray) : sl a b = decide (a.toList < b.toList) := bytesLess_eq _ _
theorem sl_irrefl (a : ByteArray) : sl a a = false := by rw [sl_eq]; simp [List.lt_irrefl]
theorem sl_trans {a b c : ByteArray} (h1 : sl a b = true) (h2 : sl b c = true) : sl a c = true := by
  rw [sl_eq] at *; simp at *; exact List.lt_trans h1 h2
theorem sl_total {a b : ByteArray} (h1 : sl a b = false) (h2 : sl b a = false) : a = b := by
  rw [sl_eq] at *; simp at *
  exact toList_inj (List.le_antisymm h2 h1)
theorem sl_asymm {a b : ByteArray} (h1 : sl a b = true) : sl b a = false := by
  cases h : sl b a with
  | false => rfl
  | true => have := sl_trans h1 h; rw [sl_irrefl] at this; cases this
theorem sl_ntrans {a b c : ByteArray} (h1 : sl a b = false) (h2 : sl b c = false) : sl a c = false := by
  rw [sl_eq] at *; simp at *; exact List.le_trans h2 h1
theorem sl_le_lt {a b c : ByteArray} (h1 : sl b a = false) (h2 : sl b c = true) : sl a c = true := by
  cases h : sl a c with
  | true => rfl
  | false => have := sl_ntrans h1 h; rw [h2] at this; cases this
theorem sl_lt_le {a b c : ByteArray} (h1 : sl a b = true) (h2 : sl c b = false) : sl a c = true := by
  cases h : sl a c with
  | true => rfl
  | false => have := sl_ntrans h h2; rw [h1] at this; cases this
/-- Go's a <= b, as the walk spells it. -/
theorem sl_leq (a b : ByteArray) : (sl a b || a.toList == b.toList) = !sl b a := by
  cases h : sl a b with
  | true => rw [sl_asymm h]; rfl
  | false =>
    cases h2 : sl b a with
    | true =>
      have : a.toList ≠ b.toList := fun e => by
        have := toList_inj e; subst this; rw [h] at h2; cases h2
      simp [this]
    | false => simp [sl_total h h2]

/-! ### Tables, edits, versions -/
structure MetaV where
  file : Int
  size : Int
  lo : ByteArray
  hi : ByteArray
structure PlaceV where
  level : Int
  m : MetaV
structure EditV where
  add : List PlaceV
  drop : List Int
  log : Int
  next : Int
  seq : Int
/-- A version: the levels 0 to 3 (lv), and three numbers. -/
structure VerV where
  lv : Nat → List MetaV
  log : Int
  next : Int
  seq : Int
def VerV.none : VerV := ⟨fun _ => [], 0, 0, 0⟩
def atLevel (i : Nat) (l : List MetaV) : List PlaceV := l.map fun m => ⟨(i : Int), m⟩
/-- All tables, level by level: the document's list. -/
def flat (S : VerV) : List PlaceV := atLevel 0 (S.lv 0) ++ (atLevel 1 (S.lv 1) ++ (atLevel 2 (S.lv 2) ++ atLevel 3 (S.lv 3)))
def filesOf (l : List PlaceV) : List Int := l.map fun p => p.m.file

/-- Does one table stand ahead of another, of level i? -/
def before (i : Nat) (a b : MetaV) : Bool := if i = 0 then decide (b.file < a.file) else sl a.lo b.lo
def aheadV (a b : PlaceV) : Bool := if a.level ≠ b.level then decide (a.level < b.level) else if a.level = 0 then decide (a.m.file > b.m.file) else sl a.m.lo b.m.lo
/-- x put into l ahead of the first one that it stands ahead of. -/
def insG {α : Type} (f : α → α → Bool) (x : α) : List α → List α
  | [] => [x]
  | y :: r => if f x y then x :: y :: r else y :: insG f x r
def withV (l : List PlaceV) (p : PlaceV) : List PlaceV := insG aheadV p l

def okNums (S : VerV) (E : EditV) : Prop := ¬ (E.log < S.log ∨ E.next < S.next ∨ E.seq < S.seq) ∧ ¬ (E.log ≥ E.next ∧ ¬ (E.log = 0 ∧ E.next = 0))
def okDrops (files : List Int) (drop : List Int) : Prop := (∀ f ∈ drop, f ∈ files) ∧ drop.Nodup
def goodP (next : Int) (p : PlaceV) : Prop := 0 ≤ p.level ∧ p.level < 4 ∧ 0 ≤ p.m.file ∧ p.m.file < next ∧ 0 ≤ p.m.size ∧ sl p.m.hi p.m.lo = false
def okAdds (files : List Int) (next : Int) (add : List PlaceV) : Prop := (∀ p ∈ add, goodP next p ∧ p.m.file ∉ files) ∧ (add.map fun p => p.m.file).Nodup
/-- Two tables have no key in common. -/
def Apart (a b : MetaV) : Prop := sl a.hi b.lo = true ∨ sl b.hi a.lo = true
theorem Apart.symm {a b : MetaV} (h : Apart a b) : Apart b a := h.elim .inr .inl

def kept (drop : List Int) (l : List MetaV) : List MetaV := l.filter fun m => !drop.contains m.file
def keptP (drop : List Int) (l : List PlaceV) : List PlaceV := l.filter fun p => !drop.contains p.m.file
/-- The tables that an edit adds to level i, put in one by one. -/
def addTo (i : Nat) (add : List PlaceV) (l : List MetaV) : List MetaV := add.foldl (fun l p => if p.level = (i : Int) then insG (before i) p.m l else l) l
/-- The version behind an edit, if it may be. -/
def nextV (S : VerV) (E : EditV) : VerV := ⟨fun i => addTo i E.add (kept E.drop (S.lv i)), E.log, E.next, E.seq⟩
def okV (S : VerV) (E : EditV) : Prop := okNums S E ∧ okDrops (filesOf (flat S)) E.drop ∧ okAdds (filesOf (flat S)) E.next E.add ∧ ∀ i, 1 ≤ i → i < 4 → ((nextV S E).lv i).Pairwise Apart
open Classical in
noncomputable def applyV (S : VerV) (E : EditV) : Option VerV := if okV S E then some (nextV S E) else none

/-! ### What holds of every version -/
structure Good (S : VerV) : Prop where
  files : (filesOf (flat S)).Nodup
  zero : (S.lv 0).Pairwise fun a b => b.file < a.file
  rest : ∀ i, 1 ≤ i → i < 4 → (S.lv i).Pairwise fun a b => sl a.hi b.lo = true
  ends : ∀ i, i < 4 → ∀ m ∈ S.lv i, sl m.hi m.lo = false ∧ 0 ≤ m.file ∧ m.file < S.next
  nums : S.log < S.next ∨ S.log = 0 ∧ S.next = 0
theorem Good.none : Good VerV.none := ⟨by simp [filesOf, flat, atLevel, VerV.none], by simp [VerV.none], by simp [VerV.none], by simp [VerV.none], .inr ⟨rfl, rfl⟩⟩

/-! ### Lists that are sorted -/
section
variable {α : Type} {f : α → α → Bool}
theorem insG_perm (x : α) : ∀ l : List α, (insG f x l).Perm (x :: l)
  | [] => List.Perm.refl _
  | y :: r => by
    unfold insG
    split
    · exact List.Perm.refl _
    · exact ((insG_perm x r).cons y).trans (List.Perm.swap x y r)
theorem insG_mem {x y : α} {l : List α} : y ∈ insG f x l ↔ y = x ∨ y ∈ l := by rw [(insG_perm x l).mem_iff]; simp
/-- Weakly sorted: no later one stands ahead of an earlier one. -/
def Sorted (f : α → α → Bool) (l : List α) : Prop := l.Pairwise fun a b => f b a = false
theorem insG_sorted (ht : ∀ a b c, f a b = true → f b c = true → f a c = true) (hn : ∀ a b c, f a b = false → f b c = false → f a c = false) (hi : ∀ a, f a a = false) (x : α) : ∀ l : List α, Sorted f l → Sorted f (insG f x l)
  | [], _ => by simp [insG, Sorted]
  | y :: r, h => by
    unfold Sorted at h
    obtain ⟨h1, h2⟩ := List.pairwise_cons.1 h
    unfold insG
    split
    · rename_i hxy
      refine List.pairwise_cons.2 ⟨fun z hz => ?_, h⟩
      rcases List.mem_cons.1 hz with rfl | hz
      · cases hc : f z x with
        | false => rfl
        | true => have := ht _ _ _ hxy hc; rw [hi] at this; cases this
      · cases hc : f z x with
        | false => rfl
        | true =>
          have := ht _ _ _ hc hxy
          rw [h1 z hz] at this; cases this
    · rename_i hxy
      refine List.pairwise_cons.2 ⟨fun z hz => ?_, insG_sorted ht hn hi x r h2⟩
      rcases insG_mem.1 hz with rfl | hz
      · simpa using hxy
      · exact h1 z hz
/-- Two strictly sorted lists of the same elements are one. -/
theorem strict_unique (hi : ∀ a, f a a = false) (ht : ∀ a b c, f a b = true → f b c = true → f a c = true) : ∀ {l m : List α}, l.Perm m → (l.Pairwise fun a b => f a b = true) → (m.Pairwise fun a b => f a b = true) → l = m
  | [], m, h, _, _ => (List.Perm.nil_eq h)
  | x :: l, [], h, _, _ => absurd h.length_eq (by simp)
  | x :: l, y :: m, h, h1, h2 => by
    obtain ⟨a1, a2⟩ := List.pairwise_cons.1 h1
    obtain ⟨b1, b2⟩ := List.pairwise_cons.1 h2
    have hx : x = y := by
      have m1 : x ∈ y :: m := h.mem_iff.1 (by simp)
      have m2 : y ∈ x :: l := h.mem_iff.2 (by simp)
      rcases List.mem_cons.1 m1 with e | e
      · exact e
      · rcases List.mem_cons.1 m2 with e' | e'
        · exact e'.symm
        · have := ht _ _ _ (a1 y e') (b1 x e); rw [hi] at this; cases this
    subst hx
    rw [strict_unique hi ht ((List.perm_cons x).1 h) a2 b2]
end
theorem before_irrefl (i : Nat) (a : MetaV) : before i a a = false := by
  unfold before; split
  · simp
  · exact sl_irrefl _
theorem before_trans (i : Nat) (a b c : MetaV) (h1 : before i a b = true) (h2 : before i b c = true) : before i a c = true := by
  unfold before at *
  by_cases h : i = 0
  · simp only [h, if_true, decide_eq_true_eq] at *; omega
  · simp only [h, if_false] at *; exact sl_trans h1 h2
theorem before_ntrans (i : Nat) (a b c : MetaV) (h1 : before i a b = false) (h2 : before i b c = false) : before i a c = false := by
  unfold before at *
  by_cases h : i = 0
  · simp only [h, if_true, decide_eq_false_iff_not] at *; omega
  · simp only [h, if_false] at *; exact sl_ntrans h1 h2
end Go.Proofs.Ytahahginmgidjaa
