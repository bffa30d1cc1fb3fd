/-
  The document's reading of a pattern: plain Lean; it says the same as the program's. No program; no condition.
-/
import Derived.Test.YtjloddlkleileaaGreatDoorPatM
namespace Go.Proofs.YtjloddlkleileaaGreatDoor
open Go.RowKit
set_option linter.unusedVariables false
set_option linter.unusedSimpArgs false

/-- A place, or the number of the first fault. -/
abbrev PSt := Nat ⊕ Int
def failS (c : Int) : PSt → PSt
  | .inl _ => .inr c
  | .inr d => .inr d
def badS : PSt → Bool
  | .inl _ => false
  | .inr _ => true
section
variable (s : List UInt8)
def isS (a b : UInt8) : PSt → Bool
  | .inl k => isB s k a b
  | .inr _ => false
def takeS (a b : UInt8) : PSt → UInt8 × PSt
  | .inl k => if isB s k a b then (s.getD k 0, .inl (k + 1)) else (0, .inr 20)
  | .inr c => (0, .inr c)
def wordS : List UInt8 → PSt → PSt
  | [], st => st
  | c :: r, st => wordS r (takeS s c c st).2
def digitsS : Nat → Int → PSt → Int × PSt
  | 0, n, st => (n, st)
  | m + 1, n, st => if isS s 48 57 st then digitsS m (10 * n + (((takeS s 48 57 st).1.toNat : Int) - 48)) (takeS s 48 57 st).2 else (n, st)
def numberS (least : UInt8) (st : PSt) : Int × PSt :=
  if badS (takeS s least 57 st).2 = true ∨ (takeS s least 57 st).1 = 48 then (0, (takeS s least 57 st).2)
  else digitsS s 8 (((takeS s least 57 st).1.toNat : Int) - 48) (takeS s least 57 st).2
/-- Behind the sign of a negated step. -/
def notS (ahead : Nat) (st : PSt) : PSt := if isS s 33 33 st then (if 8 ≤ ahead then failS 24 (takeS s 33 33 st).2 else (takeS s 33 33 st).2) else st
def manyS (most ahead : Nat) (st : PSt) : PSt := if most ≤ ahead then failS 24 st else st
def boundsS (x : PStepV) (st : PSt) : PStepV × PSt :=
  let low := numberS s 48 (takeS s 123 123 st).2
  let high := numberS s 48 (takeS s 44 44 low.2).2
  let st2 := (takeS s 125 125 high.2).2
  if low.1 < 1 ∨ high.1 < low.1 ∨ high.1 > 4 ∨ high.1 < 2 then (x, failS 22 st2) else ({ x with min := low.1, max := high.1 }, st2)
def stepS (ahead : Nat) (st : PSt) : PStepV × PSt :=
  let kind := takeS s 65 90 (notS s ahead st)
  let name := takeS s 97 122 (takeS s 32 32 (manyS 8 ahead kind.2)).2
  let x : PStepV := ⟨kind.1, name.1, isS s 33 33 st, 1, 1⟩
  if isS s 123 123 name.2 then
    (if isS s 33 33 st then (x, failS 22 (takeS s 123 123 name.2).2) else boundsS s x name.2)
  else (x, name.2)
def opS (st : PSt) : Int × PSt :=
  if isS s 60 60 st || isS s 62 62 st then
    let st1 := (takeS s 60 62 st).2
    let same := isS s 61 61 st1
    let st2 := if same then (takeS s 61 61 st1).2 else st1
    ((if isS s 60 60 st && same then 1 else if isS s 60 60 st then 0 else if same then 4 else 5), st2)
  else if isS s 33 33 st then (3, wordS s [33, 61] st)
  else (2, (takeS s 61 61 st).2)
def signedS (st : PSt) : Int × PSt :=
  if isS s 45 45 st then (-(numberS s 49 (takeS s 45 45 st).2).1, (numberS s 49 (takeS s 45 45 st).2).2)
  else numberS s 49 (takeS s 43 43 st).2
def condS (ahead : Nat) (st : PSt) : PCondV × PSt :=
  let left := takeS s 97 122 st
  let op := opS s (manyS 16 ahead left.2)
  if isS s 48 57 op.2 then (⟨left.1, op.1, 0, (numberS s 48 op.2).1⟩, (numberS s 48 op.2).2)
  else if isS s 45 45 op.2 then (⟨left.1, op.1, 0, (signedS s op.2).1⟩, (signedS s op.2).2)
  else
    let right := takeS s 97 122 op.2
    if isS s 43 43 right.2 || isS s 45 45 right.2 then (⟨left.1, op.1, right.1, (signedS s right.2).1⟩, (signedS s right.2).2)
    else (⟨left.1, op.1, right.1, 0⟩, right.2)
def stepsS : Nat → List PStepV → PSt → List PStepV × PSt
  | 0, l, st => (l, st)
  | m + 1, l, st =>
    let x := stepS s l.length st
    if isS s 44 44 x.2 then stepsS m (l ++ [x.1]) (takeS s 44 44 x.2).2 else (l ++ [x.1], x.2)
def condsS : Nat → List PCondV → PSt → List PCondV × PSt
  | 0, l, st => (l, st)
  | m + 1, l, st =>
    let x := condS s l.length st
    let st1 := (takeS s 32 32 x.2).2
    if isS s 65 65 st1 then (if badS (wordS s [65, 78, 68, 32] st1) then (l ++ [x.1], wordS s [65, 78, 68, 32] st1) else condsS m (l ++ [x.1]) (wordS s [65, 78, 68, 32] st1)) else (l ++ [x.1], st1)
def whereS (st : PSt) : List PCondV × PSt :=
  if isS s 72 72 st then
    let st1 := wordS s [72, 69, 82, 69, 32] st
    let r := if badS st1 then ([], st1) else condsS s 17 [] st1
    (r.1, (takeS s 87 87 r.2).2)
  else ([], st)
def patternS : PatV × PSt :=
  let st1 := wordS s [83, 69, 81, 40] (.inl 0)
  let steps := if badS st1 then ([], st1) else stepsS s 9 [] st1
  let conds := whereS s (wordS s [41, 32, 87] steps.2)
  let n := numberS s 48 (wordS s [73, 84, 72, 73, 78, 32] conds.2)
  (⟨steps.1, conds.1, n.1⟩, n.2)
def endS (st : PSt) : PSt := match st with
  | .inl k => if k < s.length then .inr 20 else .inl k
  | .inr c => .inr c
/-! ### Both say the same -/
/-- What the document has read is what the program reads. -/
def Sim {α : Type} (p : PRes α) (r : α × PSt) : Prop := match p with
  | .inl (y, j) => r = (y, .inl j)
  | .inr c => r.2 = .inr c
variable {s}
@[simp] theorem takeS_bad (a b : UInt8) (c : Int) : takeS s a b (.inr c) = (0, .inr c) := rfl
@[simp] theorem isS_bad (a b : UInt8) (c : Int) : isS s a b (.inr c) = false := rfl
@[simp] theorem wordS_bad (l : List UInt8) (c : Int) : wordS s l (.inr c) = .inr c := by
  induction l with
  | nil => rfl
  | cons x l ih => rw [wordS, takeS_bad, ih]
@[simp] theorem numberS_bad (a : UInt8) (c : Int) : numberS s a (.inr c) = (0, .inr c) := rfl
@[simp] theorem opS_bad (c : Int) : (opS s (.inr c)).2 = .inr c := by simp [opS]
@[simp] theorem signedS_bad (c : Int) : signedS s (.inr c) = (0, .inr c) := by simp [signedS]
@[simp] theorem condS_bad (n : Nat) (c : Int) : (condS s n (.inr c)).2 = .inr c := by
  unfold condS manyS
  split <;> simp [failS]
@[simp] theorem stepS_bad (n : Nat) (c : Int) : (stepS s n (.inr c)).2 = .inr c := by
  unfold stepS manyS notS
  split <;> simp [failS]
theorem take_sim (k : Nat) (a b : UInt8) : Sim (oneV s k a b) (takeS s a b (.inl k)) := by
  unfold oneV takeS
  split <;> simp_all [Sim]
theorem word_sim (l : List UInt8) (k : Nat) : Sim (wordV s l k) ((), wordS s l (.inl k)) := by
  induction l generalizing k with
  | nil => rfl
  | cons c r ih =>
    rw [wordV, wordS]
    have := take_sim (s := s) k c c
    cases h : oneV s k c c with
    | inl x => rw [h] at this; obtain ⟨x, j⟩ := x; rw [this]; exact ih j
    | inr e => rw [h] at this; simp only [Sim] at this; rw [this, wordS_bad]; rfl
theorem digits_sim (m : Nat) (n : Int) (k : Nat) : digitsS s m n (.inl k) = ((digitsV s m n k).1, .inl (digitsV s m n k).2) := by
  induction m generalizing n k with
  | zero => rfl
  | succ m ih =>
    rw [digitsS, digitsV]
    show (if isB s k 48 57 then _ else _) = _
    by_cases h : isB s k 48 57 = true
    · rw [if_pos h, if_pos h]
      have e : takeS s 48 57 (.inl k) = (s.getD k 0, .inl (k + 1)) := by simp only [takeS]; rw [if_pos h]
      rw [e]
      exact ih _ _
    · rw [if_neg h, if_neg h]
theorem number_sim (k : Nat) (a : UInt8) : Sim (numberP s k a) (numberS s a (.inl k)) := by
  unfold numberP numberS
  have := take_sim (s := s) k a 57
  cases h : oneV s k a 57 with
  | inr e =>
    rw [h] at this
    simp only [Sim] at this
    rw [if_pos (by rw [this]; exact .inl rfl)]
    exact this
  | inl x =>
    rw [h] at this
    obtain ⟨x, j⟩ := x
    simp only [Sim] at this
    rw [this]
    show Sim (if x = 48 then _ else _) _
    by_cases h : x = 48
    · rw [if_pos h, if_pos (.inr h)]; rfl
    · rw [if_neg h, if_neg (by intro h'; rcases h' with h' | h'; cases h'; exact h h'), digits_sim]
      rfl
theorem Sim.bind {α β : Type} {p : PRes α} {f : α → Nat → PRes β} {r : α × PSt} {q : β × PSt} (h : Sim p r) (hk : ∀ y j, r = (y, .inl j) → Sim (f y j) q) (hb : ∀ c, r.2 = .inr c → q.2 = .inr c) : Sim (p.bind f) q := by
  unfold PRes.bind
  cases p with
  | inl x => exact hk x.1 x.2 h
  | inr c => exact hb c h
theorem take_lit {k : Nat} {a : UInt8} (h : isB s k a a = true) : takeS s a a (.inl k) = (s.getD k 0, .inl (k + 1)) := by simp only [takeS]; rw [if_pos h]
theorem bounds_sim (x : PStepV) (k : Nat) (h : isB s k 123 123 = true) (h1 : x.min = 1) (h2 : x.max = 1) : Sim (stepBounds s x (k + 1)) (boundsS s x (.inl k)) := by
  unfold stepBounds boundsS
  rw [take_lit h]
  dsimp only
  have hx : ∀ c, failS 22 (.inr c) = .inr c := fun _ => rfl
  refine Sim.bind (number_sim (k + 1) 48) ?_ ?_
  · intro low k1 e1
    rw [e1]
    refine Sim.bind (word_sim [44] k1) ?_ ?_
    · intro _ k2 e2
      have e2' : (takeS s 44 44 (.inl k1)).2 = .inl k2 := by injection e2
      rw [e2']
      refine Sim.bind (number_sim k2 48) ?_ ?_
      · intro high k3 e3
        rw [e3]
        refine Sim.bind (word_sim [125] k3) ?_ ?_
        · intro _ k4 e4
          have e4' : (takeS s 125 125 (.inl k3)).2 = .inl k4 := by injection e4
          rw [e4']
          by_cases hb : low < 1 ∨ low > high ∨ high > 4 ∨ high = 1
          · rw [if_pos hb, if_pos (by dsimp only; omega)]; rfl
          · rw [if_neg hb, if_neg (by dsimp only; omega)]; rfl
        · intro c e4
          have e4' : (takeS s 125 125 (.inl k3)).2 = .inr c := e4
          rw [e4']
          split <;> simp [hx]
      · intro c e3
        obtain ⟨v, hv⟩ : ∃ v, numberS s 48 (.inl k2) = (v, .inr c) := ⟨_, Prod.ext rfl e3⟩
        rw [hv]
        dsimp only
        rw [takeS_bad]
        split <;> simp [hx]
    · intro c e2
      have e2' : (takeS s 44 44 (.inl k1)).2 = .inr c := e2
      rw [e2', numberS_bad]
      dsimp only
      rw [takeS_bad]
      split <;> simp [hx]
  · intro c e1
    obtain ⟨v, hv⟩ : ∃ v, numberS s 48 (.inl (k + 1)) = (v, .inr c) := ⟨_, Prod.ext rfl e1⟩
    rw [hv]
    dsimp only
    rw [takeS_bad, numberS_bad]
    dsimp only
    rw [takeS_bad]
    split <;> simp [hx]
theorem step_sim (k n : Nat) (hn : n ≤ 8) : Sim (stepP s k n) (stepS s n (.inl k)) := by
  by_cases h8 : n = 8
  · subst h8
    rw [stepP, if_pos rfl]
    show (stepS s 8 (.inl k)).2 = .inr (stepMany s k)
    by_cases h : isB s k 33 33 = true
    · simp [stepS, notS, isS, h, take_lit, stepMany, failS, manyS]
    · by_cases h2 : isB s k 65 90 = true
      · simp [stepS, notS, isS, h, takeS, h2, stepMany, failS, manyS]
      · simp [stepS, notS, isS, h, takeS, h2, stepMany, failS, manyS]
  · have h9 : ¬ 8 ≤ n := by omega
    rw [stepP, if_neg h8]
    unfold stepS
    have e0 : notS s n (.inl k) = .inl (if isB s k 33 33 then k + 1 else k) := by
      unfold notS
      show (if isB s k 33 33 then _ else _) = _
      by_cases h : isB s k 33 33 = true
      · rw [if_pos h, if_pos h, if_neg h9, take_lit h]
      · rw [if_neg h, if_neg h]
    have em : ∀ st, manyS 8 n st = st := fun st => by unfold manyS; rw [if_neg h9]
    rw [e0]
    dsimp only
    rw [em]
    refine Sim.bind (take_sim _ 65 90) ?_ ?_
    · intro kind k1 e1
      rw [e1]
      refine Sim.bind (word_sim [32] k1) ?_ ?_
      · intro _ k2 e2
        have e2' : (takeS s 32 32 (.inl k1)).2 = .inl k2 := by injection e2
        rw [e2']
        refine Sim.bind (take_sim k2 97 122) ?_ ?_
        · intro name k3 e3
          rw [e3]
          show Sim (if isB s k3 123 123 then _ else _) (if isB s k3 123 123 then (if isB s k 33 33 then _ else _) else _)
          by_cases h : isB s k3 123 123 = true
          · rw [if_pos h, if_pos h]
            by_cases h' : isB s k 33 33 = true
            · rw [if_pos h', if_pos h', take_lit h]; rfl
            · rw [if_neg h', if_neg h']
              exact bounds_sim _ _ h rfl rfl
          · rw [if_neg h, if_neg h]; rfl
        · intro c e3
          rw [e3]
          simp
      · intro c e2
        have e2' : (takeS s 32 32 (.inl k1)).2 = .inr c := e2
        rw [e2']
        simp
    · intro c e1
      rw [e1]
      simp
theorem op_sim (k : Nat) : Sim (opP s k) (opS s (.inl k)) := by
  unfold opP opS
  show Sim _ (if isB s k 60 60 || isB s k 62 62 then _ else _)
  by_cases h1 : isB s k 60 60 = true
  · have hg : isB s k 60 62 = true := by
      unfold isB at h1 ⊢
      split at h1
      · rename_i c hc
        simp only [Bool.and_eq_true, decide_eq_true_eq, UInt8.le_iff_toNat_le] at h1 ⊢
        have : (60 : UInt8).toNat = 60 := rfl
        have : (62 : UInt8).toNat = 62 := rfl
        omega
      · cases h1
    simp only [h1, takeS, hg, Bool.true_or, if_true, Bool.true_and]
    by_cases h2 : isB s (k + 1) 61 61 = true
    · simp [h2, h1, isS, Sim]
    · simp [h2, h1, isS, Sim]
  · by_cases h3 : isB s k 62 62 = true
    · have hg : isB s k 60 62 = true := by
        unfold isB at h3 ⊢
        split at h3
        · rename_i c hc
          simp only [Bool.and_eq_true, decide_eq_true_eq, UInt8.le_iff_toNat_le] at h3 ⊢
          have : (60 : UInt8).toNat = 60 := rfl
          have : (62 : UInt8).toNat = 62 := rfl
          omega
        · cases h3
      simp only [Bool.not_eq_true] at h1
      simp only [h1, h3, takeS, hg, Bool.or_true, if_true, Bool.false_and, Bool.false_eq_true, if_false]
      by_cases h2 : isB s (k + 1) 61 61 = true
      · simp [h2, h1, isS, Sim]
      · simp [h2, h1, isS, Sim]
    · simp only [Bool.not_eq_true] at h1 h3
      simp only [h1, h3, Bool.or_self, Bool.false_eq_true, if_false]
      by_cases h4 : isB s k 33 33 = true
      · rw [if_pos h4, show isS s 33 33 (.inl k) = true from h4, if_pos rfl]
        rw [show wordS s [33, 61] (.inl k) = wordS s [61] (.inl (k + 1)) from by rw [wordS, take_lit h4]]
        refine Sim.bind (word_sim [61] (k + 1)) ?_ ?_
        · intro _ j e; injection e with _ e; rw [e]; rfl
        · intro c e; exact e
      · rw [if_neg h4, show isS s 33 33 (.inl k) = false from by simpa [isS] using h4, if_neg (by decide)]
        refine Sim.bind (word_sim [61] k) ?_ ?_
        · intro _ j e
          have e' : (takeS s 61 61 (.inl k)).2 = .inl j := by injection e
          rw [e']; rfl
        · intro c e; exact e
theorem signed_minus {k : Nat} (h : isB s k 45 45 = true) : Sim ((numberP s (k + 1) 49).bind fun n j => .inl (-n, j)) (signedS s (.inl k)) := by
  unfold signedS
  rw [show isS s 45 45 (.inl k) = true from h, if_pos rfl, take_lit h]
  refine Sim.bind (number_sim (k + 1) 49) ?_ ?_
  · intro n j e; rw [e]; rfl
  · intro c e; exact e
theorem signed_plus {k : Nat} (h : isB s k 43 43 = true) : Sim (numberP s (k + 1) 49) (signedS s (.inl k)) := by
  have h' : isB s k 45 45 = false := by
    cases h2 : isB s k 45 45 with
    | false => rfl
    | true =>
      unfold isB at h h2
      split at h
      · rename_i c hc
        rw [hc] at h2
        simp only [Bool.and_eq_true, decide_eq_true_eq, UInt8.le_iff_toNat_le] at h h2
        have : (43 : UInt8).toNat = 43 := rfl
        have : (45 : UInt8).toNat = 45 := rfl
        omega
      · cases h
  unfold signedS
  rw [show isS s 45 45 (.inl k) = false from h', if_neg (by decide), take_lit h]
  exact number_sim (k + 1) 49
theorem bind_inl {α β : Type} {p : PRes α} {f : α → β} {r : α × PSt} (h : Sim p r) : Sim (p.bind fun x j => .inl (f x, j)) (f r.1, r.2) := by
  refine Sim.bind h ?_ ?_
  · intro y j e; rw [e]; rfl
  · intro c e; exact e
theorem isB_apart {k : Nat} {a b c d : UInt8} (h : isB s k a b = true) (hd : b < c) : isB s k c d = false := by
  cases h2 : isB s k c d with
  | false => rfl
  | true =>
    unfold isB at h h2
    split at h
    · rename_i x hx
      rw [hx] at h2
      simp only [Bool.and_eq_true, decide_eq_true_eq, UInt8.le_iff_toNat_le, UInt8.lt_iff_toNat_lt] at h h2 hd
      omega
    · cases h
theorem cond_sim (k n : Nat) (hn : n ≤ 16) : Sim (condP s k n) (condS s n (.inl k)) := by
  by_cases h8 : n = 16
  · subst h8
    rw [condP, if_pos rfl]
    show (condS s 16 (.inl k)).2 = .inr (condMany s k)
    have : ∃ c, (takeS s 97 122 (.inl k)).2 = c ∧ manyS 16 16 c = .inr (condMany s k) := by
      refine ⟨_, rfl, ?_⟩
      unfold condMany
      by_cases h : isB s k 97 122 = true
      · simp [takeS, h, manyS, failS]
      · simp [takeS, h, manyS, failS]
    obtain ⟨c, h1, h2⟩ := this
    unfold condS
    dsimp only
    rw [h1, h2]
    simp
  · have h9 : ¬ 16 ≤ n := by omega
    rw [condP, if_neg h8]
    unfold condS
    have em : ∀ st, manyS 16 n st = st := fun st => by unfold manyS; rw [if_neg h9]
    dsimp only
    rw [em]
    refine Sim.bind (take_sim _ 97 122) ?_ ?_
    · intro left k1 e1
      rw [e1]
      refine Sim.bind (op_sim k1) ?_ ?_
      · intro op k2 e2
        rw [e2]
        simp only [isS]
        by_cases h1 : isB s k2 45 45 = true
        · have h2 := isB_apart (c := 48) (d := 57) h1 (by decide)
          simp only [h1, h2, if_true, Bool.false_eq_true, if_false]
          have := bind_inl (f := fun n => (⟨left, op, 0, n⟩ : PCondV)) (signed_minus h1)
          rwa [show ((numberP s (k2 + 1) 49).bind fun n j => (.inl (-n, j) : PRes Int)).bind (fun x j => .inl ((⟨left, op, 0, x⟩ : PCondV), j)) = (numberP s (k2 + 1) 49).bind fun n j => .inl ((⟨left, op, 0, -n⟩ : PCondV), j) from by cases numberP s (k2 + 1) 49 <;> rfl] at this
        · by_cases h2 : isB s k2 48 57 = true
          · simp only [h1, h2, if_true, Bool.false_eq_true, if_false]
            exact bind_inl (f := fun n => (⟨left, op, 0, n⟩ : PCondV)) (number_sim k2 48)
          · simp only [h1, h2, Bool.false_eq_true, if_false]
            refine Sim.bind (take_sim k2 97 122) ?_ ?_
            · intro right k3 e3
              rw [e3]
              dsimp only
              by_cases h3 : isB s k3 43 43 = true
              · simp only [h3, if_true, Bool.true_or]
                exact bind_inl (f := fun n => (⟨left, op, right, n⟩ : PCondV)) (signed_plus h3)
              · by_cases h4 : isB s k3 45 45 = true
                · simp only [h3, h4, if_true, Bool.or_true, Bool.false_eq_true, if_false]
                  have := bind_inl (f := fun n => (⟨left, op, right, n⟩ : PCondV)) (signed_minus h4)
                  rwa [show ((numberP s (k3 + 1) 49).bind fun n j => (.inl (-n, j) : PRes Int)).bind (fun x j => .inl ((⟨left, op, right, x⟩ : PCondV), j)) = (numberP s (k3 + 1) 49).bind fun n j => .inl ((⟨left, op, right, -n⟩ : PCondV), j) from by cases numberP s (k3 + 1) 49 <;> rfl] at this
                · simp [h3, h4, Sim]
            · intro c e3
              rw [e3]
              simp
      · intro c e2
        rw [e2]
        simp
    · intro c e1
      rw [e1]
      simp
theorem steps_sim (m : Nat) (l : List PStepV) (k : Nat) (h : l.length + m = 8) : Sim ((stepP s k l.length).bind fun x j => stepsV s m (l ++ [x]) j) (stepsS s (m + 1) l (.inl k)) := by
  induction m generalizing l k with
  | zero =>
    rw [show l.length = 8 from h, stepP, if_pos rfl]
    have := step_sim (s := s) k 8 (Nat.le_refl _)
    rw [stepP, if_pos rfl] at this
    have e : (stepS s 8 (.inl k)).2 = .inr (stepMany s k) := this
    show (stepsS s 1 l (.inl k)).2 = _
    rw [stepsS, show l.length = 8 from h, e]
    simp
  | succ m ih =>
    refine Sim.bind (step_sim k l.length (by omega)) ?_ ?_
    · intro x j e
      rw [stepsV, stepsS, e]
      simp only [isS]
      by_cases h1 : isB s j 44 44 = true
      · simp only [h1, if_true, take_lit]
        exact ih (l ++ [x]) (j + 1) (by rw [List.length_append]; simp; omega)
      · simp [h1, Sim]
    · intro c e
      rw [stepsS, e]
      simp
theorem conds_sim (m : Nat) (l : List PCondV) (k : Nat) (h : l.length + m = 16) : Sim ((condP s k l.length).bind fun x k2 => (wordV s [32] k2).bind fun _ k3 => condsV s m (l ++ [x]) k3) (condsS s (m + 1) l (.inl k)) := by
  induction m generalizing l k with
  | zero =>
    rw [show l.length = 16 from h, condP, if_pos rfl]
    have := cond_sim (s := s) k 16 (Nat.le_refl _)
    rw [condP, if_pos rfl] at this
    have e : (condS s 16 (.inl k)).2 = .inr (condMany s k) := this
    show (condsS s 1 l (.inl k)).2 = _
    rw [condsS, show l.length = 16 from h, e]
    simp
  | succ m ih =>
    refine Sim.bind (cond_sim k l.length (by omega)) ?_ ?_
    · intro x k2 e
      rw [condsS, e]
      dsimp only
      refine Sim.bind (word_sim [32] k2) ?_ ?_
      · intro _ k3 e3
        have e3' : (takeS s 32 32 (.inl k2)).2 = .inl k3 := by injection e3
        rw [e3', condsV]
        simp only [isS]
        by_cases h1 : isB s k3 65 65 = true
        · simp only [h1, if_true]
          rw [show wordS s [65, 78, 68, 32] (.inl k3) = wordS s [78, 68, 32] (.inl (k3 + 1)) from by rw [wordS, take_lit h1]]
          refine Sim.bind (word_sim [78, 68, 32] (k3 + 1)) ?_ ?_
          · intro _ k4 e4
            injection e4 with _ e4
            rw [e4]
            simp only [badS, Bool.false_eq_true, if_false]
            exact ih (l ++ [x]) k4 (by rw [List.length_append]; simp; omega)
          · intro c e4
            have e4' : wordS s [78, 68, 32] (.inl (k3 + 1)) = .inr c := e4
            rw [e4']
            simp [badS]
        · simp [h1, Sim]
      · intro c e3
        have e3' : (takeS s 32 32 (.inl k2)).2 = .inr c := e3
        rw [e3']
        simp
    · intro c e
      rw [condsS, e]
      simp
theorem within_sim (steps : List PStepV) (conds : List PCondV) (k : Nat) : Sim (withinP s steps conds k) ((⟨steps, conds, (numberS s 48 (wordS s [73, 84, 72, 73, 78, 32] (.inl k))).1⟩ : PatV), (numberS s 48 (wordS s [73, 84, 72, 73, 78, 32] (.inl k))).2) := by
  refine Sim.bind (word_sim _ k) ?_ ?_
  · intro _ j e
    injection e with _ e
    rw [e]
    refine Sim.bind (number_sim j 48) ?_ ?_
    · intro n i e; rw [e]; rfl
    · intro c e; exact e
  · intro c e
    have e' : wordS s [73, 84, 72, 73, 78, 32] (.inl k) = .inr c := e
    rw [e']
    simp
theorem where_sim (steps : List PStepV) (k : Nat) : Sim (whereP s steps k) ((⟨steps, (whereS s (.inl k)).1, (numberS s 48 (wordS s [73, 84, 72, 73, 78, 32] (whereS s (.inl k)).2)).1⟩ : PatV), (numberS s 48 (wordS s [73, 84, 72, 73, 78, 32] (whereS s (.inl k)).2)).2) := by
  unfold whereP whereS
  simp only [isS]
  by_cases h1 : isB s k 72 72 = true
  · simp only [h1, if_true]
    rw [show wordS s [72, 69, 82, 69, 32] (.inl k) = wordS s [69, 82, 69, 32] (.inl (k + 1)) from by rw [wordS, take_lit h1]]
    refine Sim.bind (word_sim _ (k + 1)) ?_ ?_
    · intro _ k1 e1
      injection e1 with _ e1
      rw [e1]
      simp only [badS, Bool.false_eq_true, if_false]
      have hc := conds_sim (s := s) 16 [] k1 rfl
      have e : ((condP s k1 0).bind fun c k2 => (wordV s [32] k2).bind fun _ k3 => (condsV s 16 [c] k3).bind fun conds k4 => (wordV s [87] k4).bind fun _ k5 => withinP s steps conds k5) =
          ((condP s k1 0).bind fun x k2 => (wordV s [32] k2).bind fun _ k3 => condsV s 16 ([] ++ [x]) k3).bind fun conds k4 => (wordV s [87] k4).bind fun _ k5 => withinP s steps conds k5 := by
        cases condP s k1 0 with
        | inr c => rfl
        | inl x =>
          simp only [PRes.bind]
          cases wordV s [32] x.2 with
          | inr c => rfl
          | inl y => rfl
      rw [e]
      refine Sim.bind hc ?_ ?_
      · intro conds k4 e4
        rw [e4]
        dsimp only
        refine Sim.bind (word_sim [87] k4) ?_ ?_
        · intro _ k5 e5
          have e5' : (takeS s 87 87 (.inl k4)).2 = .inl k5 := by injection e5
          rw [e5']
          exact within_sim _ _ _
        · intro c e5
          have e5' : (takeS s 87 87 (.inl k4)).2 = .inr c := e5
          rw [e5']
          simp
      · intro c e4
        rw [e4]
        simp
    · intro c e1
      have e1' : wordS s [69, 82, 69, 32] (.inl (k + 1)) = .inr c := e1
      rw [e1']
      simp [badS]
  · simp only [h1, Bool.false_eq_true, if_false]
    exact within_sim _ _ _
theorem whereS_bad (c : Int) : (whereS s (.inr c)).2 = .inr c := by simp [whereS]
theorem pattern_sim : Sim (patternP s) (patternS s) := by
  unfold patternP patternS
  refine Sim.bind (word_sim _ 0) ?_ ?_
  · intro _ k1 e1
    injection e1 with _ e1
    rw [e1]
    simp only [badS, Bool.false_eq_true, if_false]
    have hs := steps_sim (s := s) 8 [] k1 rfl
    have e : ((stepP s k1 0).bind fun x k2 => (stepsV s 8 [x] k2).bind fun steps k3 => (wordV s [41, 32, 87] k3).bind fun _ k4 => whereP s steps k4) =
        ((stepP s k1 0).bind fun x j => stepsV s 8 ([] ++ [x]) j).bind fun steps k3 => (wordV s [41, 32, 87] k3).bind fun _ k4 => whereP s steps k4 := by
      cases stepP s k1 0 with
      | inr c => rfl
      | inl x => rfl
    rw [e]
    refine Sim.bind hs ?_ ?_
    · intro steps k3 e3
      rw [e3]
      dsimp only
      refine Sim.bind (word_sim _ k3) ?_ ?_
      · intro _ k4 e4
        injection e4 with _ e4
        rw [e4]
        exact where_sim _ _
      · intro c e4
        have e4' : wordS s [41, 32, 87] (.inl k3) = .inr c := e4
        rw [e4', whereS_bad]
        simp
    · intro c e3
      rw [e3, wordS_bad, whereS_bad]
      simp
  · intro c e1
    have e1' : wordS s [83, 69, 81, 40] (.inl 0) = .inr c := e1
    rw [e1']
    simp [badS, whereS_bad]
/-- What the document's Parse tells: as the program's. -/
theorem parse_sim (h : s.length ≤ 4096) : match parseP s with | .inl p => ∃ k, (patternS s).1 = p ∧ endS s (patternS s).2 = .inl k | .inr c => endS s (patternS s).2 = .inr c := by
  have hp := pattern_sim (s := s)
  unfold parseP
  rw [if_neg (by omega)]
  cases hq : patternP s with
  | inr e =>
    rw [hq] at hp
    have hp' : (patternS s).2 = .inr e := hp
    show endS s _ = _
    rw [hp']; rfl
  | inl x =>
    rw [hq] at hp
    obtain ⟨p, k⟩ := x
    have hp' : patternS s = (p, .inl k) := hp
    rw [hp']
    dsimp only
    unfold endS
    by_cases hk : k < s.length
    · simp only [if_pos hk]
    · simp only [if_neg hk]; exact ⟨k, trivial, rfl⟩
end
end Go.Proofs.YtjloddlkleileaaGreatDoor
