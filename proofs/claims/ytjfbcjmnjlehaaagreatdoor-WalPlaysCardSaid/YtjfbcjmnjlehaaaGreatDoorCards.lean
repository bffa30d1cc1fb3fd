/-
  DERIVED. GIVEN WITH THE SEED: THE CARDS: each row of YtjfbcjmnjlehaaaGreatDoorRows.lean that lists a variable, with what it lists TIED to the program's text (the seventh form; the later family's looks); each row that meets fmt, with fmt's text TOLD by the authors' own Lean function (tested against real Go, not proved from fmt's source: count such statements apart). THE CARD IS WHAT COUNTS. Prove the row's statement (the work); the ties are given (YtjfbcjmnjlehaaaGreatDoorTie.lean); close each card by the builder's one call (the guide's Derived/Test/ToyasCard.lean, 'card_holds'). Laid BY PROGRAM, IN A SANDBOX (cutbox-door.mjs). By AI agents, Wed Nov 11 2026. No macro, syntax, notation, axiom, sorry.
-/
import Derived.Test.YtjfbcjmnjlehaaaGreatDoorRows
import GoSem.ClaimSeven
namespace Go.Proofs.YtjfbcjmnjlehaaaGreatDoor
namespace Rows

/-- THE TIED CARD OF 'oxbowlaw08.WalNames'. -/
def walNamesCard : Claim7 := { stood := { row := walNamesRow, standIns := [], harness := (true, "1859bd1dc91c3e2ac8c1663d09974a517a5682aefacca26b8beb0f0b5cbff018"), looks := true }, kinds := [], alts := [], laidByText := true, laidKinds := [.data, .data, .data, .data, .sentinel, .sentinel, .pinned], laidTests := true, laidLooks := .later }
def WalNamesCardSaid : Prop := Claim7.holds Tryz.pinned (.plain (OpenSpec.ofChange walNamesSpec)) walNamesCard

/-- THE TIED CARD OF 'oxbowlaw08.WalPlays'. -/
def walPlaysCard : Claim7 := { stood := { row := walPlaysRow, standIns := [], harness := (true, "1859bd1dc91c3e2ac8c1663d09974a517a5682aefacca26b8beb0f0b5cbff018"), looks := true }, kinds := [], alts := [], laidByText := true, laidKinds := [.data, .data, .data, .data, .pinned], laidTests := true, laidLooks := .later }
def WalPlaysCardSaid : Prop := Claim7.holds Tryz.pinned (.plain (OpenSpec.ofChange walPlaysSpec)) walPlaysCard

/-- THE SECOND FORM's CARD OF 'oxbowlaw08.WalNames'. -/
def walNamesUptoCard : Claim7 := { stood := { row := walNamesUptoRow, standIns := [], harness := (true, "1859bd1dc91c3e2ac8c1663d09974a517a5682aefacca26b8beb0f0b5cbff018"), looks := true }, kinds := [], alts := [], laidByText := true, laidKinds := [.data, .data, .data, .data, .sentinel, .sentinel, .pinned], laidTests := true, laidLooks := .later }
def WalNamesUptoCardSaid : Prop := Claim7.holds Tryz.pinned (.plain (OpenSpec.upto walNamesSpec)) walNamesUptoCard

/-- THE SECOND FORM's CARD OF 'oxbowlaw08.WalPlays'. -/
def walPlaysUptoCard : Claim7 := { stood := { row := walPlaysUptoRow, standIns := [], harness := (true, "1859bd1dc91c3e2ac8c1663d09974a517a5682aefacca26b8beb0f0b5cbff018"), looks := true }, kinds := [], alts := [], laidByText := true, laidKinds := [.data, .data, .data, .data, .pinned], laidTests := true, laidLooks := .later }
def WalPlaysUptoCardSaid : Prop := Claim7.holds Tryz.pinned (.plain (OpenSpec.upto walPlaysSpec)) walPlaysUptoCard
end Rows
end Go.Proofs.YtjfbcjmnjlehaaaGreatDoor
