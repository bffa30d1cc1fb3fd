/-
  DERIVED. GIVEN WITH THE SEED: THE CARDS: each row of YtjloddlkleileaaGreatDoorRows.lean that lists a variable, with what it lists TIED to the program's text (the seventh form; the later family's looks); each row that meets fmt, with fmt's text TOLD by the authors' own Lean function (tested against real Go, not proved from fmt's source: count such statements apart). THE CARD IS WHAT COUNTS. Prove the row's statement (the work); the ties are given (YtjloddlkleileaaGreatDoorTie.lean); close each card by the builder's one call (the guide's Derived/Test/ToyasCard.lean, 'card_holds'). Laid BY PROGRAM, IN A SANDBOX (cutbox-door.mjs). By AI agents, Wed Nov 11 2026. No macro, syntax, notation, axiom, sorry.
-/
import Derived.Test.YtjloddlkleileaaGreatDoorRows
import GoSem.ClaimSeven
namespace Go.Proofs.YtjloddlkleileaaGreatDoor
namespace Rows

/-- THE TIED CARD OF 'oxbowlaw23.FeedRefuses'. -/
def feedRefusesCard : Claim7 := { stood := { row := feedRefusesRow, standIns := [], harness := (true, "7a1c37b8576236fc96e17e6fe14f5271373321d7131bf73dcbe67b1549b8a8bd"), looks := true }, kinds := [], alts := [], laidByText := true, laidKinds := [.data, .data, .data, .data, .sentinel, .sentinel, .pinned], laidTests := true, laidLooks := .later }
def FeedRefusesCardSaid : Prop := Claim7.holds Tryz.pinned (.plain (OpenSpec.ofChange feedRefusesSpec)) feedRefusesCard

/-- THE SECOND FORM's CARD OF 'oxbowlaw23.FeedRefuses'. -/
def feedRefusesUptoCard : Claim7 := { stood := { row := feedRefusesUptoRow, standIns := [], harness := (true, "7a1c37b8576236fc96e17e6fe14f5271373321d7131bf73dcbe67b1549b8a8bd"), looks := true }, kinds := [], alts := [], laidByText := true, laidKinds := [.data, .data, .data, .data, .sentinel, .sentinel, .pinned], laidTests := true, laidLooks := .later }
def FeedRefusesUptoCardSaid : Prop := Claim7.holds Tryz.pinned (.plain (OpenSpec.upto feedRefusesSpec)) feedRefusesUptoCard
end Rows
end Go.Proofs.YtjloddlkleileaaGreatDoor
