/-
  The budget as plain mathematics: what is held for four kinds, the limit, the greatest sum. No program in sight.
-/
namespace Go.Proofs.Ytafdgncjfiiekaa

/-- l: the limit; u: all that is held; h: the greatest that u was; a, b, c, d: what each kind holds. -/
structure Bud where
  l : Int
  u : Int
  h : Int
  a : Int
  b : Int
  c : Int
  d : Int

structure Bud.Good (B : Bud) : Prop where
  l0 : 0 ≤ B.l
  l1 : B.l ≤ 1099511627776
  a0 : 0 ≤ B.a
  b0 : 0 ≤ B.b
  c0 : 0 ≤ B.c
  d0 : 0 ≤ B.d
  u0 : B.u = B.a + B.b + B.c + B.d
  uh : B.u ≤ B.h
  hl : B.h ≤ B.l

def Bud.start (l : Int) : Bud := ⟨max 0 (min l 1099511627776), 0, 0, 0, 0, 0, 0⟩
def Bud.of (B : Bud) (k : Int) : Int := if k = 0 then B.a else if k = 1 then B.b else if k = 2 then B.c else if k = 3 then B.d else 0
/-- kind k holds x. -/
def Bud.put (B : Bud) (k x : Int) : Bud :=
  let u := B.u - B.of k + x
  let h := if B.h < u then u else B.h
  if k = 0 then { B with u := u, h := h, a := x } else if k = 1 then { B with u := u, h := h, b := x } else if k = 2 then { B with u := u, h := h, c := x } else if k = 3 then { B with u := u, h := h, d := x } else B

/-- What Reserve, Release and Change answer, and leave. -/
def Bud.reserve (B : Bud) (k n : Int) : Int × Bud := if k < 0 ∨ 4 ≤ k ∨ n < 0 then (2, B) else if B.l - B.u < n then (14, B) else (0, B.put k (B.of k + n))
def Bud.release (B : Bud) (k n : Int) : Int × Bud := if k < 0 ∨ 4 ≤ k ∨ n < 0 then (2, B) else if B.of k < n then (2, B) else (0, B.put k (B.of k - n))
def Bud.change (B : Bud) (k n : Int) : Int × Bud := if k < 0 ∨ 4 ≤ k ∨ n < 0 then (2, B) else if B.l - B.u < n - B.of k then (14, B) else (0, B.put k n)

theorem Bud.start_good (l : Int) : (Bud.start l).Good := by constructor <;> simp [Bud.start] <;> omega
theorem kind_cases {k : Int} (h0 : 0 ≤ k) (h4 : k < 4) : k = 0 ∨ k = 1 ∨ k = 2 ∨ k = 3 := by omega
theorem Bud.of_bd {B : Bud} (h : B.Good) (k : Int) : 0 ≤ B.of k ∧ B.of k ≤ B.u := by
  obtain ⟨l0, l1, a0, b0, c0, d0, u0, uh, hl⟩ := h
  unfold Bud.of
  repeat' split
  all_goals omega
theorem Bud.put_good {B : Bud} (h : B.Good) {k x : Int} (hx : 0 ≤ x) (hl : B.u - B.of k + x ≤ B.l) : (B.put k x).Good := by
  obtain ⟨l0, l1, a0, b0, c0, d0, u0, uh, hh⟩ := h
  unfold Bud.put Bud.of at *
  by_cases k0 : k = 0
  · simp only [k0, if_true] at hl ⊢; constructor <;> simp <;> (try split) <;> omega
  by_cases k1 : k = 1
  · simp [k1] at hl ⊢; constructor <;> simp <;> (try split) <;> omega
  by_cases k2 : k = 2
  · simp [k2] at hl ⊢; constructor <;> simp <;> (try split) <;> omega
  by_cases k3 : k = 3
  · simp [k3] at hl ⊢; constructor <;> simp <;> (try split) <;> omega
  simp [k0, k1, k2, k3]; constructor <;> assumption
theorem Bud.reserve_good {B : Bud} (h : B.Good) (k n : Int) : (B.reserve k n).2.Good := by
  unfold Bud.reserve
  have := B.of_bd h k
  split; exact h
  split; exact h
  exact Bud.put_good h (by omega) (by omega)
theorem Bud.release_good {B : Bud} (h : B.Good) (k n : Int) : (B.release k n).2.Good := by
  unfold Bud.release
  have := B.of_bd h k
  have := h.uh
  have := h.hl
  split; exact h
  split; exact h
  exact Bud.put_good h (by omega) (by omega)
theorem Bud.change_good {B : Bud} (h : B.Good) (k n : Int) : (B.change k n).2.Good := by
  unfold Bud.change
  have := B.of_bd h k
  split; exact h
  split; exact h
  exact Bud.put_good h (by omega) (by omega)

/-- One call of a script: a Release, a Change or a Reserve, by the remainder of d by 3. -/
def Bud.act (B : Bud) (d k n : Int) : Int × Bud :=
  if d.tmod 3 = 1 ∨ d.tmod 3 = -1 then B.release k n else if d.tmod 3 = 2 ∨ d.tmod 3 = -2 then B.change k n else B.reserve k n
theorem Bud.act_good {B : Bud} (h : B.Good) (d k n : Int) : (B.act d k n).2.Good := by
  unfold Bud.act
  split
  · exact B.release_good h k n
  split
  · exact B.change_good h k n
  · exact B.reserve_good h k n
theorem tmod3_cases (d : Int) : d.tmod 3 = 1 ∨ d.tmod 3 = -1 ∨ d.tmod 3 = 2 ∨ d.tmod 3 = -2 ∨ d.tmod 3 = 0 := by
  by_cases h : 0 ≤ d
  · rw [Int.tmod_eq_emod_of_nonneg h]; omega
  · obtain ⟨m, rfl⟩ : ∃ m, d = -m := ⟨-d, by omega⟩
    rw [Int.neg_tmod, Int.tmod_eq_emod_of_nonneg (by omega)]; omega
theorem Bud.act_release {B : Bud} {d k n : Int} (h : d.tmod 3 = 1 ∨ d.tmod 3 = -1) : B.act d k n = B.release k n := if_pos h
theorem Bud.act_change {B : Bud} {d k n : Int} (h : d.tmod 3 = 2 ∨ d.tmod 3 = -2) : B.act d k n = B.change k n := by
  unfold Bud.act; rw [if_neg (by omega), if_pos h]
theorem Bud.act_reserve {B : Bud} {d k n : Int} (h : d.tmod 3 = 0) : B.act d k n = B.reserve k n := by
  unfold Bud.act; rw [if_neg (by omega), if_neg (by omega)]

/-- What the first k kinds hold together. -/
def Bud.upto (B : Bud) (k : Nat) : Int := if k = 0 then 0 else if k = 1 then B.a else if k = 2 then B.a + B.b else if k = 3 then B.a + B.b + B.c else B.u
theorem Bud.upto_succ {B : Bud} (h : B.Good) {k : Nat} (hk : k < 4) : B.upto (k + 1) = B.upto k + B.of k := by
  obtain ⟨l0, l1, a0, b0, c0, d0, u0, uh, hh⟩ := h
  have : k = 0 ∨ k = 1 ∨ k = 2 ∨ k = 3 := by omega
  rcases this with rfl | rfl | rfl | rfl <;> simp [Bud.upto, Bud.of] <;> omega
theorem Bud.upto_bd {B : Bud} (h : B.Good) (k : Nat) : 0 ≤ B.upto k ∧ B.upto k ≤ B.u := by
  obtain ⟨l0, l1, a0, b0, c0, d0, u0, uh, hh⟩ := h
  unfold Bud.upto
  repeat' split
  all_goals omega
theorem Bud.put_l (B : Bud) (k x : Int) : (B.put k x).l = B.l := by
  unfold Bud.put; simp only []; repeat' split
  all_goals rfl
theorem Bud.put_h (B : Bud) (k x : Int) : B.h ≤ (B.put k x).h := by
  unfold Bud.put; simp only []
  by_cases hh : B.h < B.u - B.of k + x
  · simp only [hh, if_true]; repeat' split
    all_goals first | (simp; omega) | (simp)
  · simp only [hh, if_false]; repeat' split
    all_goals simp
theorem Bud.reserve_l (B : Bud) (k n : Int) : (B.reserve k n).2.l = B.l ∧ B.h ≤ (B.reserve k n).2.h := by
  unfold Bud.reserve; repeat' split
  · exact ⟨rfl, Int.le_refl _⟩
  · exact ⟨rfl, Int.le_refl _⟩
  · exact ⟨B.put_l _ _, B.put_h _ _⟩
theorem Bud.release_l (B : Bud) (k n : Int) : (B.release k n).2.l = B.l ∧ B.h ≤ (B.release k n).2.h := by
  unfold Bud.release; repeat' split
  · exact ⟨rfl, Int.le_refl _⟩
  · exact ⟨rfl, Int.le_refl _⟩
  · exact ⟨B.put_l _ _, B.put_h _ _⟩
theorem Bud.change_l (B : Bud) (k n : Int) : (B.change k n).2.l = B.l ∧ B.h ≤ (B.change k n).2.h := by
  unfold Bud.change; repeat' split
  · exact ⟨rfl, Int.le_refl _⟩
  · exact ⟨rfl, Int.le_refl _⟩
  · exact ⟨B.put_l _ _, B.put_h _ _⟩
/-- One call of the other script: 0 is a Reserve, 1 a Release, all else a Change. -/
def Bud.act2 (B : Bud) (d k n : Int) : Int × Bud := if d.tmod 3 = 0 then B.reserve k n else if d.tmod 3 = 1 then B.release k n else B.change k n
theorem Bud.act2_l (B : Bud) (d k n : Int) : (B.act2 d k n).2.l = B.l ∧ B.h ≤ (B.act2 d k n).2.h := by
  unfold Bud.act2; split
  · exact B.reserve_l k n
  split
  · exact B.release_l k n
  · exact B.change_l k n
theorem Bud.put_of (B : Bud) {k x : Int} (h0 : 0 ≤ k) (h4 : k < 4) : (B.put k x).of k = x := by
  rcases kind_cases h0 h4 with rfl | rfl | rfl | rfl <;> simp [Bud.put, Bud.of]
theorem Bud.put_of_ne (B : Bud) {k j x : Int} (h : j ≠ k) : (B.put k x).of j = B.of j := by
  unfold Bud.put Bud.of
  by_cases k0 : k = 0
  · subst k0; simp [h]
  by_cases k1 : k = 1
  · subst k1; simp [h]
  by_cases k2 : k = 2
  · subst k2; simp [h]
  by_cases k3 : k = 3
  · subst k3; simp [h]
  simp [k0, k1, k2, k3]
theorem Bud.put_u (B : Bud) {k x : Int} (h0 : 0 ≤ k) (h4 : k < 4) : (B.put k x).u = B.u - B.of k + x ∧ (B.put k x).h = if B.h < B.u - B.of k + x then B.u - B.of k + x else B.h := by
  rcases kind_cases h0 h4 with rfl | rfl | rfl | rfl <;> simp [Bud.put, Bud.of]
end Go.Proofs.Ytafdgncjfiiekaa
