/-
  DERIVED. GIVEN WITH THE SEED: THE CARDS: each row of YtdchffghgajbfaaDoorRows.lean that lists a variable, with what it lists TIED to the program's text (the seventh form; the later family's looks); each row that meets fmt, with fmt's text TOLD by the authors' own Lean function (tested against real Go, not proved from fmt's source: count such statements apart). THE CARD IS WHAT COUNTS. Prove the row's statement (the work); the ties are given (YtdchffghgajbfaaDoorTie.lean); close each card by the builder's one call (the guide's Derived/Test/ToyasCard.lean, 'card_holds'). Laid BY PROGRAM, IN A SANDBOX (cutbox-door.mjs). By AI agents, Wed Nov 11 2026. No macro, syntax, notation, axiom, sorry.
-/
import Derived.Test.YtdchffghgajbfaaDoorRows
import GoSem.ClaimSeven
namespace Go.Proofs.YtdchffghgajbfaaDoor
namespace Rows

/-- THE TIED CARD OF 'bursarlaw22.WatchPlays'. -/
def watchPlaysCard : Claim7 := { stood := { row := watchPlaysRow, standIns := [], harness := (true, "12ca9273779ac494c3bf2eb3c14d96aeafcafdc302ebfc0868d3056c703bf321"), looks := false }, kinds := [], alts := [], laidByText := true, laidKinds := [.data, .data, .pinned], laidTests := true, laidLooks := .later }
def WatchPlaysCardSaid : Prop := Claim7.holds Tryd.pinned (.plain (OpenSpec.ofChange watchPlaysSpec)) watchPlaysCard

/-- THE TIED CARD OF 'bursarlaw22.WatchKeeps'. -/
def watchKeepsCard : Claim7 := { stood := { row := watchKeepsRow, standIns := [], harness := (true, "12ca9273779ac494c3bf2eb3c14d96aeafcafdc302ebfc0868d3056c703bf321"), looks := false }, kinds := [], alts := [], laidByText := true, laidKinds := [.data, .data, .pinned], laidTests := true, laidLooks := .later }
def WatchKeepsCardSaid : Prop := Claim7.holds Tryd.pinned (.plain (OpenSpec.ofChange watchKeepsSpec)) watchKeepsCard

/-- THE TIED CARD OF 'bursarlaw22.WatchPieces'. -/
def watchPiecesCard : Claim7 := { stood := { row := watchPiecesRow, standIns := [], harness := (true, "12ca9273779ac494c3bf2eb3c14d96aeafcafdc302ebfc0868d3056c703bf321"), looks := false }, kinds := [], alts := [], laidByText := true, laidKinds := [.data, .data, .pinned], laidTests := true, laidLooks := .later }
def WatchPiecesCardSaid : Prop := Claim7.holds Tryd.pinned (.plain (OpenSpec.ofChange watchPiecesSpec)) watchPiecesCard

/-- THE TIED CARD OF 'bursarlaw15.ScopeWithin'. -/
def scopeWithinCard : Claim7 := { stood := { row := scopeWithinRow, standIns := [], harness := (true, "12ca9273779ac494c3bf2eb3c14d96aeafcafdc302ebfc0868d3056c703bf321"), looks := false }, kinds := [], alts := [], laidByText := true, laidKinds := [.data], laidTests := true, laidLooks := .later }
def ScopeWithinCardSaid : Prop := Claim7.holds Tryd.pinned (.plain (OpenSpec.ofChange scopeWithinSpec)) scopeWithinCard

/-- THE TIED CARD OF 'bursarlaw15.ScopeKeepsApart'. -/
def scopeKeepsApartCard : Claim7 := { stood := { row := scopeKeepsApartRow, standIns := [], harness := (true, "12ca9273779ac494c3bf2eb3c14d96aeafcafdc302ebfc0868d3056c703bf321"), looks := false }, kinds := [], alts := [], laidByText := true, laidKinds := [.data], laidTests := true, laidLooks := .later }
def ScopeKeepsApartCardSaid : Prop := Claim7.holds Tryd.pinned (.plain (OpenSpec.ofChange scopeKeepsApartSpec)) scopeKeepsApartCard

/-- THE TIED CARD OF 'bursarlaw15.ScopeAnswers'. -/
def scopeAnswersCard : Claim7 := { stood := { row := scopeAnswersRow, standIns := [], harness := (true, "12ca9273779ac494c3bf2eb3c14d96aeafcafdc302ebfc0868d3056c703bf321"), looks := false }, kinds := [], alts := [], laidByText := true, laidKinds := [.data], laidTests := true, laidLooks := .later }
def ScopeAnswersCardSaid : Prop := Claim7.holds Tryd.pinned (.plain (OpenSpec.ofChange scopeAnswersSpec)) scopeAnswersCard

/-- THE TIED CARD OF 'bursarlaw15.ScopeTexts'. -/
def scopeTextsCard : Claim7 := { stood := { row := scopeTextsRow, standIns := [], harness := (true, "12ca9273779ac494c3bf2eb3c14d96aeafcafdc302ebfc0868d3056c703bf321"), looks := false }, kinds := [], alts := [], laidByText := true, laidKinds := [.data], laidTests := true, laidLooks := .later }
def ScopeTextsCardSaid : Prop := Claim7.holds Tryd.pinned (.plain (OpenSpec.ofChange scopeTextsSpec)) scopeTextsCard

/-- THE TIED CARD OF 'bursarlaw15.ScopeParts'. -/
def scopePartsCard : Claim7 := { stood := { row := scopePartsRow, standIns := [], harness := (true, "12ca9273779ac494c3bf2eb3c14d96aeafcafdc302ebfc0868d3056c703bf321"), looks := false }, kinds := [], alts := [], laidByText := true, laidKinds := [.data], laidTests := true, laidLooks := .later }
def ScopePartsCardSaid : Prop := Claim7.holds Tryd.pinned (.plain (OpenSpec.ofChange scopePartsSpec)) scopePartsCard

/-- THE TIED CARD OF 'bursarlaw22.WatchReplays'. -/
def watchReplaysCard : Claim7 := { stood := { row := watchReplaysRow, standIns := [], harness := (true, "12ca9273779ac494c3bf2eb3c14d96aeafcafdc302ebfc0868d3056c703bf321"), looks := false }, kinds := [], alts := [], laidByText := true, laidKinds := [.data, .data, .pinned], laidTests := true, laidLooks := .later }
def WatchReplaysCardSaid : Prop := Claim7.holds Tryd.pinned (.plain (OpenSpec.ofChange watchReplaysSpec)) watchReplaysCard

/-- THE TIED CARD OF 'bursarlaw22.WatchEnough'. -/
def watchEnoughCard : Claim7 := { stood := { row := watchEnoughRow, standIns := [], harness := (true, "12ca9273779ac494c3bf2eb3c14d96aeafcafdc302ebfc0868d3056c703bf321"), looks := false }, kinds := [], alts := [], laidByText := true, laidKinds := [.data, .data, .pinned], laidTests := true, laidLooks := .later }
def WatchEnoughCardSaid : Prop := Claim7.holds Tryd.pinned (.plain (OpenSpec.ofChange watchEnoughSpec)) watchEnoughCard

/-- THE TIED CARD OF 'bursarlaw22.WatchApart'. -/
def watchApartCard : Claim7 := { stood := { row := watchApartRow, standIns := [], harness := (true, "12ca9273779ac494c3bf2eb3c14d96aeafcafdc302ebfc0868d3056c703bf321"), looks := false }, kinds := [], alts := [], laidByText := true, laidKinds := [.data, .data, .pinned], laidTests := true, laidLooks := .later }
def WatchApartCardSaid : Prop := Claim7.holds Tryd.pinned (.plain (OpenSpec.ofChange watchApartSpec)) watchApartCard

/-- THE SECOND FORM's CARD OF 'bursarlaw22.WatchPlays'. -/
def watchPlaysUptoCard : Claim7 := { stood := { row := watchPlaysUptoRow, standIns := [], harness := (true, "12ca9273779ac494c3bf2eb3c14d96aeafcafdc302ebfc0868d3056c703bf321"), looks := false }, kinds := [], alts := [], laidByText := true, laidKinds := [.data, .data, .pinned], laidTests := true, laidLooks := .later }
def WatchPlaysUptoCardSaid : Prop := Claim7.holds Tryd.pinned (.plain (OpenSpec.upto watchPlaysSpec)) watchPlaysUptoCard

/-- THE SECOND FORM's CARD OF 'bursarlaw22.WatchKeeps'. -/
def watchKeepsUptoCard : Claim7 := { stood := { row := watchKeepsUptoRow, standIns := [], harness := (true, "12ca9273779ac494c3bf2eb3c14d96aeafcafdc302ebfc0868d3056c703bf321"), looks := false }, kinds := [], alts := [], laidByText := true, laidKinds := [.data, .data, .pinned], laidTests := true, laidLooks := .later }
def WatchKeepsUptoCardSaid : Prop := Claim7.holds Tryd.pinned (.plain (OpenSpec.upto watchKeepsSpec)) watchKeepsUptoCard

/-- THE SECOND FORM's CARD OF 'bursarlaw22.WatchPieces'. -/
def watchPiecesUptoCard : Claim7 := { stood := { row := watchPiecesUptoRow, standIns := [], harness := (true, "12ca9273779ac494c3bf2eb3c14d96aeafcafdc302ebfc0868d3056c703bf321"), looks := false }, kinds := [], alts := [], laidByText := true, laidKinds := [.data, .data, .pinned], laidTests := true, laidLooks := .later }
def WatchPiecesUptoCardSaid : Prop := Claim7.holds Tryd.pinned (.plain (OpenSpec.upto watchPiecesSpec)) watchPiecesUptoCard

/-- THE SECOND FORM's CARD OF 'bursarlaw15.ScopeWithin'. -/
def scopeWithinUptoCard : Claim7 := { stood := { row := scopeWithinUptoRow, standIns := [], harness := (true, "12ca9273779ac494c3bf2eb3c14d96aeafcafdc302ebfc0868d3056c703bf321"), looks := false }, kinds := [], alts := [], laidByText := true, laidKinds := [.data], laidTests := true, laidLooks := .later }
def ScopeWithinUptoCardSaid : Prop := Claim7.holds Tryd.pinned (.plain (OpenSpec.upto scopeWithinSpec)) scopeWithinUptoCard

/-- THE SECOND FORM's CARD OF 'bursarlaw15.ScopeKeepsApart'. -/
def scopeKeepsApartUptoCard : Claim7 := { stood := { row := scopeKeepsApartUptoRow, standIns := [], harness := (true, "12ca9273779ac494c3bf2eb3c14d96aeafcafdc302ebfc0868d3056c703bf321"), looks := false }, kinds := [], alts := [], laidByText := true, laidKinds := [.data], laidTests := true, laidLooks := .later }
def ScopeKeepsApartUptoCardSaid : Prop := Claim7.holds Tryd.pinned (.plain (OpenSpec.upto scopeKeepsApartSpec)) scopeKeepsApartUptoCard

/-- THE SECOND FORM's CARD OF 'bursarlaw15.ScopeAnswers'. -/
def scopeAnswersUptoCard : Claim7 := { stood := { row := scopeAnswersUptoRow, standIns := [], harness := (true, "12ca9273779ac494c3bf2eb3c14d96aeafcafdc302ebfc0868d3056c703bf321"), looks := false }, kinds := [], alts := [], laidByText := true, laidKinds := [.data], laidTests := true, laidLooks := .later }
def ScopeAnswersUptoCardSaid : Prop := Claim7.holds Tryd.pinned (.plain (OpenSpec.upto scopeAnswersSpec)) scopeAnswersUptoCard

/-- THE SECOND FORM's CARD OF 'bursarlaw15.ScopeTexts'. -/
def scopeTextsUptoCard : Claim7 := { stood := { row := scopeTextsUptoRow, standIns := [], harness := (true, "12ca9273779ac494c3bf2eb3c14d96aeafcafdc302ebfc0868d3056c703bf321"), looks := false }, kinds := [], alts := [], laidByText := true, laidKinds := [.data], laidTests := true, laidLooks := .later }
def ScopeTextsUptoCardSaid : Prop := Claim7.holds Tryd.pinned (.plain (OpenSpec.upto scopeTextsSpec)) scopeTextsUptoCard

/-- THE SECOND FORM's CARD OF 'bursarlaw15.ScopeParts'. -/
def scopePartsUptoCard : Claim7 := { stood := { row := scopePartsUptoRow, standIns := [], harness := (true, "12ca9273779ac494c3bf2eb3c14d96aeafcafdc302ebfc0868d3056c703bf321"), looks := false }, kinds := [], alts := [], laidByText := true, laidKinds := [.data], laidTests := true, laidLooks := .later }
def ScopePartsUptoCardSaid : Prop := Claim7.holds Tryd.pinned (.plain (OpenSpec.upto scopePartsSpec)) scopePartsUptoCard

/-- THE SECOND FORM's CARD OF 'bursarlaw22.WatchReplays'. -/
def watchReplaysUptoCard : Claim7 := { stood := { row := watchReplaysUptoRow, standIns := [], harness := (true, "12ca9273779ac494c3bf2eb3c14d96aeafcafdc302ebfc0868d3056c703bf321"), looks := false }, kinds := [], alts := [], laidByText := true, laidKinds := [.data, .data, .pinned], laidTests := true, laidLooks := .later }
def WatchReplaysUptoCardSaid : Prop := Claim7.holds Tryd.pinned (.plain (OpenSpec.upto watchReplaysSpec)) watchReplaysUptoCard

/-- THE SECOND FORM's CARD OF 'bursarlaw22.WatchEnough'. -/
def watchEnoughUptoCard : Claim7 := { stood := { row := watchEnoughUptoRow, standIns := [], harness := (true, "12ca9273779ac494c3bf2eb3c14d96aeafcafdc302ebfc0868d3056c703bf321"), looks := false }, kinds := [], alts := [], laidByText := true, laidKinds := [.data, .data, .pinned], laidTests := true, laidLooks := .later }
def WatchEnoughUptoCardSaid : Prop := Claim7.holds Tryd.pinned (.plain (OpenSpec.upto watchEnoughSpec)) watchEnoughUptoCard

/-- THE SECOND FORM's CARD OF 'bursarlaw22.WatchApart'. -/
def watchApartUptoCard : Claim7 := { stood := { row := watchApartUptoRow, standIns := [], harness := (true, "12ca9273779ac494c3bf2eb3c14d96aeafcafdc302ebfc0868d3056c703bf321"), looks := false }, kinds := [], alts := [], laidByText := true, laidKinds := [.data, .data, .pinned], laidTests := true, laidLooks := .later }
def WatchApartUptoCardSaid : Prop := Claim7.holds Tryd.pinned (.plain (OpenSpec.upto watchApartSpec)) watchApartUptoCard
end Rows
end Go.Proofs.YtdchffghgajbfaaDoor
