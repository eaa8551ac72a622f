/-
  DERIVED. GIVEN WITH THE SEED: THE CARDS: each row of YtalkdddeiebfmaaGreatDoorRows.lean that lists a variable, with what it lists TIED to the program's text (the seventh form; the later family's looks); each row that meets fmt, with fmt's text TOLD by the authors' own Lean function (tested against real Go, not proved from fmt's source: count such statements apart). THE CARD IS WHAT COUNTS. Prove the row's statement (the work); the ties are given (YtalkdddeiebfmaaGreatDoorTie.lean); close each card by the builder's one call (the guide's Derived/Test/ToyasCard.lean, 'card_holds'). Laid BY PROGRAM, IN A SANDBOX (cutbox-door.mjs). By AI agents, Wed Nov 11 2026. No macro, syntax, notation, axiom, sorry.
-/
import Derived.Test.YtalkdddeiebfmaaGreatDoorRows
import GoSem.ClaimSeven
namespace Go.Proofs.YtalkdddeiebfmaaGreatDoor
namespace Rows

/-- THE TIED CARD OF 'bursarlaw17.LedgerOfMany'. -/
def ledgerOfManyCard : Claim7 := { stood := { row := ledgerOfManyRow, standIns := [], harness := (true, "b60570f1d96224bb580fc40e409f2b05b6412cad09faea3887ccd94712f6811e"), looks := false }, kinds := [], alts := [], laidByText := true, laidKinds := [.data, .data, .pinned], laidTests := true, laidLooks := .later }
def LedgerOfManyCardSaid : Prop := Claim7.holds Tryz.pinned (.plain (OpenSpec.ofChange ledgerOfManySpec)) ledgerOfManyCard

/-- THE TIED CARD OF 'bursarlaw17.LedgerApart'. -/
def ledgerApartCard : Claim7 := { stood := { row := ledgerApartRow, standIns := [], harness := (true, "b60570f1d96224bb580fc40e409f2b05b6412cad09faea3887ccd94712f6811e"), looks := false }, kinds := [], alts := [], laidByText := true, laidKinds := [.data, .data, .pinned], laidTests := true, laidLooks := .later }
def LedgerApartCardSaid : Prop := Claim7.holds Tryz.pinned (.plain (OpenSpec.ofChange ledgerApartSpec)) ledgerApartCard

/-- THE TIED CARD OF 'bursarlaw17.LedgerOrders'. -/
def ledgerOrdersCard : Claim7 := { stood := { row := ledgerOrdersRow, standIns := [], harness := (true, "b60570f1d96224bb580fc40e409f2b05b6412cad09faea3887ccd94712f6811e"), looks := false }, kinds := [], alts := [], laidByText := true, laidKinds := [.data, .data, .pinned], laidTests := true, laidLooks := .later }
def LedgerOrdersCardSaid : Prop := Claim7.holds Tryz.pinned (.plain (OpenSpec.ofChange ledgerOrdersSpec)) ledgerOrdersCard

/-- THE TIED CARD OF 'bursarlaw17.LedgerPlays'. -/
def ledgerPlaysCard : Claim7 := { stood := { row := ledgerPlaysRow, standIns := [], harness := (true, "b60570f1d96224bb580fc40e409f2b05b6412cad09faea3887ccd94712f6811e"), looks := false }, kinds := [], alts := [], laidByText := true, laidKinds := [.data, .data, .pinned], laidTests := true, laidLooks := .later }
def LedgerPlaysCardSaid : Prop := Claim7.holds Tryz.pinned (.plain (OpenSpec.ofChange ledgerPlaysSpec)) ledgerPlaysCard

/-- THE TIED CARD OF 'bursarlaw17.LedgerUndoes'. -/
def ledgerUndoesCard : Claim7 := { stood := { row := ledgerUndoesRow, standIns := [], harness := (true, "b60570f1d96224bb580fc40e409f2b05b6412cad09faea3887ccd94712f6811e"), looks := false }, kinds := [], alts := [], laidByText := true, laidKinds := [.data, .data, .pinned], laidTests := true, laidLooks := .later }
def LedgerUndoesCardSaid : Prop := Claim7.holds Tryz.pinned (.plain (OpenSpec.ofChange ledgerUndoesSpec)) ledgerUndoesCard

/-- THE TIED CARD OF 'bursarlaw17.LedgerSums'. -/
def ledgerSumsCard : Claim7 := { stood := { row := ledgerSumsRow, standIns := [], harness := (true, "b60570f1d96224bb580fc40e409f2b05b6412cad09faea3887ccd94712f6811e"), looks := false }, kinds := [], alts := [], laidByText := true, laidKinds := [.data, .data, .pinned], laidTests := true, laidLooks := .later }
def LedgerSumsCardSaid : Prop := Claim7.holds Tryz.pinned (.plain (OpenSpec.ofChange ledgerSumsSpec)) ledgerSumsCard

/-- THE TIED CARD OF 'bursarlaw17.LedgerClimbs'. -/
def ledgerClimbsCard : Claim7 := { stood := { row := ledgerClimbsRow, standIns := [], harness := (true, "b60570f1d96224bb580fc40e409f2b05b6412cad09faea3887ccd94712f6811e"), looks := false }, kinds := [], alts := [], laidByText := true, laidKinds := [.data, .data, .pinned], laidTests := true, laidLooks := .later }
def LedgerClimbsCardSaid : Prop := Claim7.holds Tryz.pinned (.plain (OpenSpec.ofChange ledgerClimbsSpec)) ledgerClimbsCard

/-- THE SECOND FORM's CARD OF 'bursarlaw17.LedgerOfMany'. -/
def ledgerOfManyUptoCard : Claim7 := { stood := { row := ledgerOfManyUptoRow, standIns := [], harness := (true, "b60570f1d96224bb580fc40e409f2b05b6412cad09faea3887ccd94712f6811e"), looks := false }, kinds := [], alts := [], laidByText := true, laidKinds := [.data, .data, .pinned], laidTests := true, laidLooks := .later }
def LedgerOfManyUptoCardSaid : Prop := Claim7.holds Tryz.pinned (.plain (OpenSpec.upto ledgerOfManySpec)) ledgerOfManyUptoCard

/-- THE SECOND FORM's CARD OF 'bursarlaw17.LedgerApart'. -/
def ledgerApartUptoCard : Claim7 := { stood := { row := ledgerApartUptoRow, standIns := [], harness := (true, "b60570f1d96224bb580fc40e409f2b05b6412cad09faea3887ccd94712f6811e"), looks := false }, kinds := [], alts := [], laidByText := true, laidKinds := [.data, .data, .pinned], laidTests := true, laidLooks := .later }
def LedgerApartUptoCardSaid : Prop := Claim7.holds Tryz.pinned (.plain (OpenSpec.upto ledgerApartSpec)) ledgerApartUptoCard

/-- THE SECOND FORM's CARD OF 'bursarlaw17.LedgerOrders'. -/
def ledgerOrdersUptoCard : Claim7 := { stood := { row := ledgerOrdersUptoRow, standIns := [], harness := (true, "b60570f1d96224bb580fc40e409f2b05b6412cad09faea3887ccd94712f6811e"), looks := false }, kinds := [], alts := [], laidByText := true, laidKinds := [.data, .data, .pinned], laidTests := true, laidLooks := .later }
def LedgerOrdersUptoCardSaid : Prop := Claim7.holds Tryz.pinned (.plain (OpenSpec.upto ledgerOrdersSpec)) ledgerOrdersUptoCard

/-- THE SECOND FORM's CARD OF 'bursarlaw17.LedgerPlays'. -/
def ledgerPlaysUptoCard : Claim7 := { stood := { row := ledgerPlaysUptoRow, standIns := [], harness := (true, "b60570f1d96224bb580fc40e409f2b05b6412cad09faea3887ccd94712f6811e"), looks := false }, kinds := [], alts := [], laidByText := true, laidKinds := [.data, .data, .pinned], laidTests := true, laidLooks := .later }
def LedgerPlaysUptoCardSaid : Prop := Claim7.holds Tryz.pinned (.plain (OpenSpec.upto ledgerPlaysSpec)) ledgerPlaysUptoCard

/-- THE SECOND FORM's CARD OF 'bursarlaw17.LedgerUndoes'. -/
def ledgerUndoesUptoCard : Claim7 := { stood := { row := ledgerUndoesUptoRow, standIns := [], harness := (true, "b60570f1d96224bb580fc40e409f2b05b6412cad09faea3887ccd94712f6811e"), looks := false }, kinds := [], alts := [], laidByText := true, laidKinds := [.data, .data, .pinned], laidTests := true, laidLooks := .later }
def LedgerUndoesUptoCardSaid : Prop := Claim7.holds Tryz.pinned (.plain (OpenSpec.upto ledgerUndoesSpec)) ledgerUndoesUptoCard

/-- THE SECOND FORM's CARD OF 'bursarlaw17.LedgerSums'. -/
def ledgerSumsUptoCard : Claim7 := { stood := { row := ledgerSumsUptoRow, standIns := [], harness := (true, "b60570f1d96224bb580fc40e409f2b05b6412cad09faea3887ccd94712f6811e"), looks := false }, kinds := [], alts := [], laidByText := true, laidKinds := [.data, .data, .pinned], laidTests := true, laidLooks := .later }
def LedgerSumsUptoCardSaid : Prop := Claim7.holds Tryz.pinned (.plain (OpenSpec.upto ledgerSumsSpec)) ledgerSumsUptoCard

/-- THE SECOND FORM's CARD OF 'bursarlaw17.LedgerClimbs'. -/
def ledgerClimbsUptoCard : Claim7 := { stood := { row := ledgerClimbsUptoRow, standIns := [], harness := (true, "b60570f1d96224bb580fc40e409f2b05b6412cad09faea3887ccd94712f6811e"), looks := false }, kinds := [], alts := [], laidByText := true, laidKinds := [.data, .data, .pinned], laidTests := true, laidLooks := .later }
def LedgerClimbsUptoCardSaid : Prop := Claim7.holds Tryz.pinned (.plain (OpenSpec.upto ledgerClimbsSpec)) ledgerClimbsUptoCard
end Rows
end Go.Proofs.YtalkdddeiebfmaaGreatDoor
