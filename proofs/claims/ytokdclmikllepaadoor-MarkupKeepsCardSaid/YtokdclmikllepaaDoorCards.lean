/-
  DERIVED. GIVEN WITH THE SEED: THE CARDS: each row of YtokdclmikllepaaDoorRows.lean that lists a variable, with what it lists TIED to the program's text (the seventh form; the later family's looks); each row that meets fmt, with fmt's text TOLD by the authors' own Lean function (tested against real Go, not proved from fmt's source: count such statements apart). THE CARD IS WHAT COUNTS. Prove the row's statement (the work); the ties are given (YtokdclmikllepaaDoorTie.lean); close each card by the builder's one call (the guide's Derived/Test/ToyasCard.lean, 'card_holds'). Laid BY PROGRAM, IN A SANDBOX (cutbox-door.mjs). By AI agents, Wed Nov 11 2026. No macro, syntax, notation, axiom, sorry.
-/
import Derived.Test.YtokdclmikllepaaDoorRows
import GoSem.ClaimSeven
namespace Go.Proofs.YtokdclmikllepaaDoor
namespace Rows

/-- THE TIED CARD OF 'pavanelaw08.MarkupFaults'. -/
def markupFaultsCard : Claim7 := { stood := { row := markupFaultsRow, standIns := [], harness := (true, "37d0127cef413fff899d372e17c39ce0f031489cd3fc9af7db27f4ee6118bb83"), looks := true }, kinds := [], alts := [], laidByText := true, laidKinds := [.data, .data, .data, .data, .sentinel, .sentinel, .pinned], laidTests := true, laidLooks := .later }
def MarkupFaultsCardSaid : Prop := Claim7.holds Tryd.pinned (.plain (OpenSpec.ofChange markupFaultsSpec)) markupFaultsCard

/-- THE TIED CARD OF 'pavanelaw08.MarkupKeeps'. -/
def markupKeepsCard : Claim7 := { stood := { row := markupKeepsRow, standIns := [], harness := (true, "37d0127cef413fff899d372e17c39ce0f031489cd3fc9af7db27f4ee6118bb83"), looks := true }, kinds := [], alts := [], laidByText := true, laidKinds := [.data, .data, .data, .data, .sentinel, .sentinel, .pinned], laidTests := true, laidLooks := .later }
def MarkupKeepsCardSaid : Prop := Claim7.holds Tryd.pinned (.plain (OpenSpec.ofChange markupKeepsSpec)) markupKeepsCard

/-- THE SECOND FORM's CARD OF 'pavanelaw08.MarkupFaults'. -/
def markupFaultsUptoCard : Claim7 := { stood := { row := markupFaultsUptoRow, standIns := [], harness := (true, "37d0127cef413fff899d372e17c39ce0f031489cd3fc9af7db27f4ee6118bb83"), looks := true }, kinds := [], alts := [], laidByText := true, laidKinds := [.data, .data, .data, .data, .sentinel, .sentinel, .pinned], laidTests := true, laidLooks := .later }
def MarkupFaultsUptoCardSaid : Prop := Claim7.holds Tryd.pinned (.plain (OpenSpec.upto markupFaultsSpec)) markupFaultsUptoCard

/-- THE SECOND FORM's CARD OF 'pavanelaw08.MarkupKeeps'. -/
def markupKeepsUptoCard : Claim7 := { stood := { row := markupKeepsUptoRow, standIns := [], harness := (true, "37d0127cef413fff899d372e17c39ce0f031489cd3fc9af7db27f4ee6118bb83"), looks := true }, kinds := [], alts := [], laidByText := true, laidKinds := [.data, .data, .data, .data, .sentinel, .sentinel, .pinned], laidTests := true, laidLooks := .later }
def MarkupKeepsUptoCardSaid : Prop := Claim7.holds Tryd.pinned (.plain (OpenSpec.upto markupKeepsSpec)) markupKeepsUptoCard
end Rows
end Go.Proofs.YtokdclmikllepaaDoor
