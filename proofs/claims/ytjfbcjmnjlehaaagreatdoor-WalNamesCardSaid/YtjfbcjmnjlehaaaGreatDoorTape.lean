/-
  A map's iterator does not touch the tape itself. Plain lemmas.
-/
import Derived.Test.YtjfbcjmnjlehaaaGreatDoorBase
import Derived.Laws.IdiomRangeMap
namespace Go.Proofs.YtjfbcjmnjlehaaaGreatDoor
open Go.RowKit
set_option linter.unusedVariables false
set_option linter.unusedSimpArgs false

/-- Nothing but asking, and laying whole objects. -/
def Mild {α : Type} : Sem α → Prop
  | .pure _ => True
  | .getObj _ k => ∀ o, Mild (k o)
  | .setObj _ _ k => Mild k
  | .choose _ k => ∀ n, Mild (k n)
  | .mark _ k => Mild k
  | .halt _ => True
  | _ => False
theorem mild_bind {α β : Type} (f : α → Sem β) : ∀ (m : Sem α), Mild m → (∀ a, Mild (f a)) → Mild (m.bind f) := by
  intro m
  induction m with
  | pure a => intro _ hf; exact hf a
  | getObj r k ih => intro h hf o; exact ih o (h o) hf
  | setObj r o k ih => intro h hf; exact ih h hf
  | choose q k ih => intro h hf n; exact ih n (h n) hf
  | mark q k ih => intro h hf; exact ih h hf
  | halt e => intro _ _; exact trivial
  | load m a k ih => intro h; cases h
  | store m a v k ih => intro h; cases h
  | new o k ih => intro h; cases h
  | shape r k ih => intro h; cases h
  | freeze a n k ih => intro h; cases h
  | frozen a k ih => intro h; cases h
  | sys c k ih => intro h; cases h
  | program k ih => intro h; cases h
theorem mild_bind' {α β : Type} {m : Sem α} {f : α → Sem β} (h : Mild m) (hf : ∀ a, Mild (f a)) : Mild (m >>= f) := mild_bind f m h hf
theorem mild_tape {α : Type} (P : Program) : ∀ (m : Sem α), Mild m → ∀ (w : World) (a : α) (w' : World), m.run P w = .ok a w' → w'.tape = w.tape := by
  intro m
  induction m with
  | pure a => intro _ w b w' h; simp only [Sem.run] at h; cases h; rfl
  | getObj r k ih =>
    intro hm w b w' h
    simp only [Sem.run] at h
    split at h
    · cases h
    · exact ih _ (hm _) _ _ _ h
    · cases h
  | setObj r o k ih =>
    intro hm w b w' h
    simp only [Sem.run] at h
    split at h
    · cases h
    · exact (ih hm _ _ _ h).trans rfl
    · cases h
  | choose q k ih =>
    intro hm w b w' h
    simp only [Sem.run] at h
    split at h
    · exact ih _ (hm _) _ _ _ h
    · exact (ih _ (hm _) _ _ _ h).trans rfl
  | mark q k ih => intro hm w b w' h; simp only [Sem.run] at h; exact ih hm _ _ _ h
  | halt e => intro _ w b w' h; simp only [Sem.run] at h; cases h
  | load m a k ih => intro h; cases h
  | store m a v k ih => intro h; cases h
  | new o k ih => intro h; cases h
  | shape r k ih => intro h; cases h
  | freeze a n k ih => intro h; cases h
  | frozen a k ih => intro h; cases h
  | sys c k ih => intro h; cases h
  | program k ih => intro h; cases h
theorem next_mild (v : Value) (s : Bool) (ty : TypeId) : Mild (Instr.next v s ty) := by
  unfold Instr.next
  simp only []
  split
  · refine mild_bind' (fun o => trivial) fun o => ?_
    split
    · split
      · exact mild_bind' trivial fun _ => trivial
      · exact trivial
    · exact trivial
    · refine mild_bind' (fun o => trivial) fun o => ?_
      split
      · split
        · exact mild_bind' trivial fun _ => by
            refine mild_bind' (fun n => trivial) fun n => ?_
            split
            · exact mild_bind' trivial fun _ => trivial
            · exact trivial
            · exact trivial
        · refine mild_bind' (fun n => trivial) fun n => ?_
          split
          · exact mild_bind' trivial fun _ => trivial
          · exact trivial
          · exact trivial
      · exact trivial
    · exact trivial
  · exact trivial
end Go.Proofs.YtjfbcjmnjlehaaaGreatDoor
