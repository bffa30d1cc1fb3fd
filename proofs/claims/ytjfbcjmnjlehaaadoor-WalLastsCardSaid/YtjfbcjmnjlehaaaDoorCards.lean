/-
  DERIVED. GIVEN WITH THE SEED: THE CARDS: each row of YtjfbcjmnjlehaaaDoorRows.lean that lists a variable, with what it lists TIED to the program's text (the seventh form; the later family's looks); each row that meets fmt, with fmt's text TOLD by the authors' own Lean function (tested against real Go, not proved from fmt's source: count such statements apart). THE CARD IS WHAT COUNTS. Prove the row's statement (the work); the ties are given (YtjfbcjmnjlehaaaDoorTie.lean); close each card by the builder's one call (the guide's Derived/Test/ToyasCard.lean, 'card_holds'). Laid BY PROGRAM, IN A SANDBOX (cutbox-door.mjs). By AI agents, Wed Nov 11 2026. No macro, syntax, notation, axiom, sorry.
-/
import Derived.Test.YtjfbcjmnjlehaaaDoorRows
import GoSem.ClaimSeven
namespace Go.Proofs.YtjfbcjmnjlehaaaDoor
namespace Rows

/-- THE TIED CARD OF 'oxbowlaw08.WalApart'. -/
def walApartCard : Claim7 := { stood := { row := walApartRow, standIns := [], harness := (true, "1d652d719e28c6c34f695178bbec9ac1eab5a948b93e3d717673cc3d0210102f"), looks := true }, kinds := [], alts := [], laidByText := true, laidKinds := [.data, .data, .data, .data, .pinned], laidTests := true, laidLooks := .later }
def WalApartCardSaid : Prop := Claim7.holds Tryd.pinned (.plain (OpenSpec.ofChange walApartSpec)) walApartCard

/-- THE TIED CARD OF 'oxbowlaw08.WalBits'. -/
def walBitsCard : Claim7 := { stood := { row := walBitsRow, standIns := [], harness := (true, "1d652d719e28c6c34f695178bbec9ac1eab5a948b93e3d717673cc3d0210102f"), looks := true }, kinds := [], alts := [], laidByText := true, laidKinds := [.data, .data, .data, .data, .pinned], laidTests := true, laidLooks := .later }
def WalBitsCardSaid : Prop := Claim7.holds Tryd.pinned (.plain (OpenSpec.ofChange walBitsSpec)) walBitsCard

/-- THE TIED CARD OF 'oxbowlaw08.WalLasts'. -/
def walLastsCard : Claim7 := { stood := { row := walLastsRow, standIns := [], harness := (true, "1d652d719e28c6c34f695178bbec9ac1eab5a948b93e3d717673cc3d0210102f"), looks := true }, kinds := [], alts := [], laidByText := true, laidKinds := [.data, .data, .data, .data, .pinned], laidTests := true, laidLooks := .later }
def WalLastsCardSaid : Prop := Claim7.holds Tryd.pinned (.plain (OpenSpec.ofChange walLastsSpec)) walLastsCard

/-- THE SECOND FORM's CARD OF 'oxbowlaw08.WalApart'. -/
def walApartUptoCard : Claim7 := { stood := { row := walApartUptoRow, standIns := [], harness := (true, "1d652d719e28c6c34f695178bbec9ac1eab5a948b93e3d717673cc3d0210102f"), looks := true }, kinds := [], alts := [], laidByText := true, laidKinds := [.data, .data, .data, .data, .pinned], laidTests := true, laidLooks := .later }
def WalApartUptoCardSaid : Prop := Claim7.holds Tryd.pinned (.plain (OpenSpec.upto walApartSpec)) walApartUptoCard

/-- THE SECOND FORM's CARD OF 'oxbowlaw08.WalBits'. -/
def walBitsUptoCard : Claim7 := { stood := { row := walBitsUptoRow, standIns := [], harness := (true, "1d652d719e28c6c34f695178bbec9ac1eab5a948b93e3d717673cc3d0210102f"), looks := true }, kinds := [], alts := [], laidByText := true, laidKinds := [.data, .data, .data, .data, .pinned], laidTests := true, laidLooks := .later }
def WalBitsUptoCardSaid : Prop := Claim7.holds Tryd.pinned (.plain (OpenSpec.upto walBitsSpec)) walBitsUptoCard

/-- THE SECOND FORM's CARD OF 'oxbowlaw08.WalLasts'. -/
def walLastsUptoCard : Claim7 := { stood := { row := walLastsUptoRow, standIns := [], harness := (true, "1d652d719e28c6c34f695178bbec9ac1eab5a948b93e3d717673cc3d0210102f"), looks := true }, kinds := [], alts := [], laidByText := true, laidKinds := [.data, .data, .data, .data, .pinned], laidTests := true, laidLooks := .later }
def WalLastsUptoCardSaid : Prop := Claim7.holds Tryd.pinned (.plain (OpenSpec.upto walLastsSpec)) walLastsUptoCard
end Rows
end Go.Proofs.YtjfbcjmnjlehaaaDoor
