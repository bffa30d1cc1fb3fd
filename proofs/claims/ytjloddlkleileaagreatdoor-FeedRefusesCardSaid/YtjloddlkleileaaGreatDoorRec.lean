/-
  What an argument that is a slice reads as: plain lemmas; no condition.
-/
import Derived.Test.YtjloddlkleileaaGreatDoorBase
namespace Go.Proofs.YtjloddlkleileaaGreatDoor
open Go.RowKit

/-- The slice value '.slice A n c' reads as n rows of k cells each, V i j the j-th of row i; they lie below block B. -/
def Rec (w : World) (B k : Nat) (A : Option Addr) (n : Nat) (V : Nat → Nat → Value) : Prop :=
  0 < n → ∃ b off, A = some ⟨b, off, none⟩ ∧ b < B ∧ ∀ i, i < n → ∀ j, j < k → w.cell? ⟨b, off + i * k + j, none⟩ = some (V i j)
theorem Rec.chg {S : Nat → Prop} {w w' : World} {B k : Nat} {A : Option Addr} {n : Nat} {V : Nat → Nat → Value} (h : Rec w B k A n V) (hc : Chg S w w') (hB : B ≤ w.heap.size) (hS : ∀ b, b < B → ¬ S b) : Rec w' B k A n V := fun hn => by
  obtain ⟨b, off, e, hb, hr⟩ := h hn
  exact ⟨b, off, e, hb, fun i hi j hj => (hc.cell (p := ⟨b, off + i * k + j, none⟩) (Nat.lt_of_lt_of_le hb hB) (hS b hb)).trans (hr i hi j hj)⟩

def actRow (D F K N : Nat → Int) (S : Nat → ByteArray) (i j : Nat) : Value :=
  match j with | 0 => .int .i64 (D i) | 1 => .int .i64 (F i) | 2 => .int .i64 (K i) | 3 => .string (S i) | _ => .int .i64 (N i)

end Go.Proofs.YtjloddlkleileaaGreatDoor
