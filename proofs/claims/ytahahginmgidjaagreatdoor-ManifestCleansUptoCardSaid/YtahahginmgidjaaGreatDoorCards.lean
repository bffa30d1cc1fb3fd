/-
  DERIVED. GIVEN WITH THE SEED: THE CARDS: each row of YtahahginmgidjaaGreatDoorRows.lean that lists a variable, with what it lists TIED to the program's text (the seventh form; the later family's looks); each row that meets fmt, with fmt's text TOLD by the authors' own Lean function (tested against real Go, not proved from fmt's source: count such statements apart). THE CARD IS WHAT COUNTS. Prove the row's statement (the work); the ties are given (YtahahginmgidjaaGreatDoorTie.lean); close each card by the builder's one call (the guide's Derived/Test/ToyasCard.lean, 'card_holds'). Laid BY PROGRAM, IN A SANDBOX (cutbox-door.mjs). By AI agents, Wed Nov 11 2026. No macro, syntax, notation, axiom, sorry.
-/
import Derived.Test.YtahahginmgidjaaGreatDoorRows
import GoSem.ClaimSeven
namespace Go.Proofs.YtahahginmgidjaaGreatDoor
namespace Rows

/-- THE TIED CARD OF 'oxbowlaw16.ManifestCleans'. -/
def manifestCleansCard : Claim7 := { stood := { row := manifestCleansRow, standIns := [], harness := (true, "2f098fdd654615fa561674eb5a2bb8e09fc45e2606ef52ca0bc8d2c8631179e7"), looks := true }, kinds := [], alts := [], laidByText := true, laidKinds := [.data, .data, .data, .data, .sentinel, .sentinel, .pinned], laidTests := true, laidLooks := .later }
def ManifestCleansCardSaid : Prop := Claim7.holds Tryz.pinned (.plain (OpenSpec.ofChange manifestCleansSpec)) manifestCleansCard

/-- THE TIED CARD OF 'oxbowlaw16.ManifestPlays'. -/
def manifestPlaysCard : Claim7 := { stood := { row := manifestPlaysRow, standIns := [], harness := (true, "2f098fdd654615fa561674eb5a2bb8e09fc45e2606ef52ca0bc8d2c8631179e7"), looks := true }, kinds := [], alts := [], laidByText := true, laidKinds := [.data, .data, .data, .data, .sentinel, .sentinel, .pinned], laidTests := true, laidLooks := .later }
def ManifestPlaysCardSaid : Prop := Claim7.holds Tryz.pinned (.plain (OpenSpec.ofChange manifestPlaysSpec)) manifestPlaysCard

/-- THE SECOND FORM's CARD OF 'oxbowlaw16.ManifestCleans'. -/
def manifestCleansUptoCard : Claim7 := { stood := { row := manifestCleansUptoRow, standIns := [], harness := (true, "2f098fdd654615fa561674eb5a2bb8e09fc45e2606ef52ca0bc8d2c8631179e7"), looks := true }, kinds := [], alts := [], laidByText := true, laidKinds := [.data, .data, .data, .data, .sentinel, .sentinel, .pinned], laidTests := true, laidLooks := .later }
def ManifestCleansUptoCardSaid : Prop := Claim7.holds Tryz.pinned (.plain (OpenSpec.upto manifestCleansSpec)) manifestCleansUptoCard

/-- THE SECOND FORM's CARD OF 'oxbowlaw16.ManifestPlays'. -/
def manifestPlaysUptoCard : Claim7 := { stood := { row := manifestPlaysUptoRow, standIns := [], harness := (true, "2f098fdd654615fa561674eb5a2bb8e09fc45e2606ef52ca0bc8d2c8631179e7"), looks := true }, kinds := [], alts := [], laidByText := true, laidKinds := [.data, .data, .data, .data, .sentinel, .sentinel, .pinned], laidTests := true, laidLooks := .later }
def ManifestPlaysUptoCardSaid : Prop := Claim7.holds Tryz.pinned (.plain (OpenSpec.upto manifestPlaysSpec)) manifestPlaysUptoCard
end Rows
end Go.Proofs.YtahahginmgidjaaGreatDoor
