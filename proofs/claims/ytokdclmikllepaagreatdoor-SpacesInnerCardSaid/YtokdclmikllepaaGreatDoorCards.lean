/-
  DERIVED. GIVEN WITH THE SEED: THE CARDS: each row of YtokdclmikllepaaGreatDoorRows.lean that lists a variable, with what it lists TIED to the program's text (the seventh form; the later family's looks); each row that meets fmt, with fmt's text TOLD by the authors' own Lean function (tested against real Go, not proved from fmt's source: count such statements apart). THE CARD IS WHAT COUNTS. Prove the row's statement (the work); the ties are given (YtokdclmikllepaaGreatDoorTie.lean); close each card by the builder's one call (the guide's Derived/Test/ToyasCard.lean, 'card_holds'). Laid BY PROGRAM, IN A SANDBOX (cutbox-door.mjs). By AI agents, Wed Nov 11 2026. No macro, syntax, notation, axiom, sorry.
-/
import Derived.Test.YtokdclmikllepaaGreatDoorRows
import GoSem.ClaimSeven
namespace Go.Proofs.YtokdclmikllepaaGreatDoor
namespace Rows

/-- THE TIED CARD OF 'pavanelaw08.MarkupReads'. -/
def markupReadsCard : Claim7 := { stood := { row := markupReadsRow, standIns := [], harness := (true, "a203dd287369a0f2cd47524931cbd015b18cb2db62ac0ef814e87fdb3d83a7f0"), looks := true }, kinds := [], alts := [], laidByText := true, laidKinds := [.data, .data, .data, .data, .sentinel, .sentinel, .pinned], laidTests := true, laidLooks := .later }
def MarkupReadsCardSaid : Prop := Claim7.holds Tryz.pinned (.plain (OpenSpec.ofChange markupReadsSpec)) markupReadsCard

/-- THE TIED CARD OF 'pavanelaw08.MarkupRefers'. -/
def markupRefersCard : Claim7 := { stood := { row := markupRefersRow, standIns := [], harness := (true, "a203dd287369a0f2cd47524931cbd015b18cb2db62ac0ef814e87fdb3d83a7f0"), looks := true }, kinds := [], alts := [], laidByText := true, laidKinds := [.data, .data, .data, .data, .sentinel, .sentinel, .pinned], laidTests := true, laidLooks := .later }
def MarkupRefersCardSaid : Prop := Claim7.holds Tryz.pinned (.plain (OpenSpec.ofChange markupRefersSpec)) markupRefersCard

/-- THE TIED CARD OF 'pavanelaw08.MarkupEscapes'. -/
def markupEscapesCard : Claim7 := { stood := { row := markupEscapesRow, standIns := [], harness := (true, "a203dd287369a0f2cd47524931cbd015b18cb2db62ac0ef814e87fdb3d83a7f0"), looks := true }, kinds := [], alts := [], laidByText := true, laidKinds := [.data, .data, .data, .data, .sentinel, .sentinel, .pinned], laidTests := true, laidLooks := .later }
def MarkupEscapesCardSaid : Prop := Claim7.holds Tryz.pinned (.plain (OpenSpec.ofChange markupEscapesSpec)) markupEscapesCard

/-- THE TIED CARD OF 'pavanelaw10.SpacesTurned'. -/
def spacesTurnedCard : Claim7 := { stood := { row := spacesTurnedRow, standIns := [], harness := (true, "a203dd287369a0f2cd47524931cbd015b18cb2db62ac0ef814e87fdb3d83a7f0"), looks := true }, kinds := [], alts := [], laidByText := true, laidKinds := [.data, .data, .data, .data, .sentinel, .sentinel, .pinned], laidTests := true, laidLooks := .later }
def SpacesTurnedCardSaid : Prop := Claim7.holds Tryz.pinned (.plain (OpenSpec.ofChange spacesTurnedSpec)) spacesTurnedCard

/-- THE TIED CARD OF 'pavanelaw10.SpacesDefault'. -/
def spacesDefaultCard : Claim7 := { stood := { row := spacesDefaultRow, standIns := [], harness := (true, "a203dd287369a0f2cd47524931cbd015b18cb2db62ac0ef814e87fdb3d83a7f0"), looks := true }, kinds := [], alts := [], laidByText := true, laidKinds := [.data, .data, .data, .data, .sentinel, .sentinel, .pinned], laidTests := true, laidLooks := .later }
def SpacesDefaultCardSaid : Prop := Claim7.holds Tryz.pinned (.plain (OpenSpec.ofChange spacesDefaultSpec)) spacesDefaultCard

/-- THE TIED CARD OF 'pavanelaw10.SpacesInner'. -/
def spacesInnerCard : Claim7 := { stood := { row := spacesInnerRow, standIns := [], harness := (true, "a203dd287369a0f2cd47524931cbd015b18cb2db62ac0ef814e87fdb3d83a7f0"), looks := true }, kinds := [], alts := [], laidByText := true, laidKinds := [.data, .data, .data, .data, .sentinel, .sentinel, .pinned], laidTests := true, laidLooks := .later }
def SpacesInnerCardSaid : Prop := Claim7.holds Tryz.pinned (.plain (OpenSpec.ofChange spacesInnerSpec)) spacesInnerCard

/-- THE TIED CARD OF 'pavanelaw09.TreeParses'. -/
def treeParsesCard : Claim7 := { stood := { row := treeParsesRow, standIns := [], harness := (true, "a203dd287369a0f2cd47524931cbd015b18cb2db62ac0ef814e87fdb3d83a7f0"), looks := true }, kinds := [], alts := [], laidByText := true, laidKinds := [.data, .data, .data, .data, .sentinel, .sentinel, .pinned], laidTests := true, laidLooks := .later }
def TreeParsesCardSaid : Prop := Claim7.holds Tryz.pinned (.plain (OpenSpec.ofChange treeParsesSpec)) treeParsesCard

/-- THE TIED CARD OF 'pavanelaw09.TreeWrites'. -/
def treeWritesCard : Claim7 := { stood := { row := treeWritesRow, standIns := [], harness := (true, "a203dd287369a0f2cd47524931cbd015b18cb2db62ac0ef814e87fdb3d83a7f0"), looks := true }, kinds := [], alts := [], laidByText := true, laidKinds := [.data, .data, .data, .data, .sentinel, .sentinel, .pinned], laidTests := true, laidLooks := .later }
def TreeWritesCardSaid : Prop := Claim7.holds Tryz.pinned (.plain (OpenSpec.ofChange treeWritesSpec)) treeWritesCard

/-- THE TIED CARD OF 'pavanelaw09.TreeBack'. -/
def treeBackCard : Claim7 := { stood := { row := treeBackRow, standIns := [], harness := (true, "a203dd287369a0f2cd47524931cbd015b18cb2db62ac0ef814e87fdb3d83a7f0"), looks := true }, kinds := [], alts := [], laidByText := true, laidKinds := [.data, .data, .data, .data, .sentinel, .sentinel, .pinned], laidTests := true, laidLooks := .later }
def TreeBackCardSaid : Prop := Claim7.holds Tryz.pinned (.plain (OpenSpec.ofChange treeBackSpec)) treeBackCard

/-- THE TIED CARD OF 'pavanelaw09.TreeAgain'. -/
def treeAgainCard : Claim7 := { stood := { row := treeAgainRow, standIns := [], harness := (true, "a203dd287369a0f2cd47524931cbd015b18cb2db62ac0ef814e87fdb3d83a7f0"), looks := true }, kinds := [], alts := [], laidByText := true, laidKinds := [.data, .data, .data, .data, .sentinel, .sentinel, .pinned], laidTests := true, laidLooks := .later }
def TreeAgainCardSaid : Prop := Claim7.holds Tryz.pinned (.plain (OpenSpec.ofChange treeAgainSpec)) treeAgainCard

/-- THE TIED CARD OF 'pavanelaw09.TreeDeep'. -/
def treeDeepCard : Claim7 := { stood := { row := treeDeepRow, standIns := [], harness := (true, "a203dd287369a0f2cd47524931cbd015b18cb2db62ac0ef814e87fdb3d83a7f0"), looks := true }, kinds := [], alts := [], laidByText := true, laidKinds := [.data, .data, .data, .data, .sentinel, .sentinel, .pinned], laidTests := true, laidLooks := .later }
def TreeDeepCardSaid : Prop := Claim7.holds Tryz.pinned (.plain (OpenSpec.ofChange treeDeepSpec)) treeDeepCard

/-- THE TIED CARD OF 'pavanelaw09.TreeTurned'. -/
def treeTurnedCard : Claim7 := { stood := { row := treeTurnedRow, standIns := [], harness := (true, "a203dd287369a0f2cd47524931cbd015b18cb2db62ac0ef814e87fdb3d83a7f0"), looks := true }, kinds := [], alts := [], laidByText := true, laidKinds := [.data, .data, .data, .data, .sentinel, .sentinel, .pinned], laidTests := true, laidLooks := .later }
def TreeTurnedCardSaid : Prop := Claim7.holds Tryz.pinned (.plain (OpenSpec.ofChange treeTurnedSpec)) treeTurnedCard

/-- THE TIED CARD OF 'pavanelaw09.TreeKeeps'. -/
def treeKeepsCard : Claim7 := { stood := { row := treeKeepsRow, standIns := [], harness := (true, "a203dd287369a0f2cd47524931cbd015b18cb2db62ac0ef814e87fdb3d83a7f0"), looks := true }, kinds := [], alts := [], laidByText := true, laidKinds := [.data, .data, .data, .data, .sentinel, .sentinel, .pinned], laidTests := true, laidLooks := .later }
def TreeKeepsCardSaid : Prop := Claim7.holds Tryz.pinned (.plain (OpenSpec.ofChange treeKeepsSpec)) treeKeepsCard

/-- THE SECOND FORM's CARD OF 'pavanelaw08.MarkupReads'. -/
def markupReadsUptoCard : Claim7 := { stood := { row := markupReadsUptoRow, standIns := [], harness := (true, "a203dd287369a0f2cd47524931cbd015b18cb2db62ac0ef814e87fdb3d83a7f0"), looks := true }, kinds := [], alts := [], laidByText := true, laidKinds := [.data, .data, .data, .data, .sentinel, .sentinel, .pinned], laidTests := true, laidLooks := .later }
def MarkupReadsUptoCardSaid : Prop := Claim7.holds Tryz.pinned (.plain (OpenSpec.upto markupReadsSpec)) markupReadsUptoCard

/-- THE SECOND FORM's CARD OF 'pavanelaw08.MarkupRefers'. -/
def markupRefersUptoCard : Claim7 := { stood := { row := markupRefersUptoRow, standIns := [], harness := (true, "a203dd287369a0f2cd47524931cbd015b18cb2db62ac0ef814e87fdb3d83a7f0"), looks := true }, kinds := [], alts := [], laidByText := true, laidKinds := [.data, .data, .data, .data, .sentinel, .sentinel, .pinned], laidTests := true, laidLooks := .later }
def MarkupRefersUptoCardSaid : Prop := Claim7.holds Tryz.pinned (.plain (OpenSpec.upto markupRefersSpec)) markupRefersUptoCard

/-- THE SECOND FORM's CARD OF 'pavanelaw08.MarkupEscapes'. -/
def markupEscapesUptoCard : Claim7 := { stood := { row := markupEscapesUptoRow, standIns := [], harness := (true, "a203dd287369a0f2cd47524931cbd015b18cb2db62ac0ef814e87fdb3d83a7f0"), looks := true }, kinds := [], alts := [], laidByText := true, laidKinds := [.data, .data, .data, .data, .sentinel, .sentinel, .pinned], laidTests := true, laidLooks := .later }
def MarkupEscapesUptoCardSaid : Prop := Claim7.holds Tryz.pinned (.plain (OpenSpec.upto markupEscapesSpec)) markupEscapesUptoCard

/-- THE SECOND FORM's CARD OF 'pavanelaw10.SpacesTurned'. -/
def spacesTurnedUptoCard : Claim7 := { stood := { row := spacesTurnedUptoRow, standIns := [], harness := (true, "a203dd287369a0f2cd47524931cbd015b18cb2db62ac0ef814e87fdb3d83a7f0"), looks := true }, kinds := [], alts := [], laidByText := true, laidKinds := [.data, .data, .data, .data, .sentinel, .sentinel, .pinned], laidTests := true, laidLooks := .later }
def SpacesTurnedUptoCardSaid : Prop := Claim7.holds Tryz.pinned (.plain (OpenSpec.upto spacesTurnedSpec)) spacesTurnedUptoCard

/-- THE SECOND FORM's CARD OF 'pavanelaw10.SpacesDefault'. -/
def spacesDefaultUptoCard : Claim7 := { stood := { row := spacesDefaultUptoRow, standIns := [], harness := (true, "a203dd287369a0f2cd47524931cbd015b18cb2db62ac0ef814e87fdb3d83a7f0"), looks := true }, kinds := [], alts := [], laidByText := true, laidKinds := [.data, .data, .data, .data, .sentinel, .sentinel, .pinned], laidTests := true, laidLooks := .later }
def SpacesDefaultUptoCardSaid : Prop := Claim7.holds Tryz.pinned (.plain (OpenSpec.upto spacesDefaultSpec)) spacesDefaultUptoCard

/-- THE SECOND FORM's CARD OF 'pavanelaw10.SpacesInner'. -/
def spacesInnerUptoCard : Claim7 := { stood := { row := spacesInnerUptoRow, standIns := [], harness := (true, "a203dd287369a0f2cd47524931cbd015b18cb2db62ac0ef814e87fdb3d83a7f0"), looks := true }, kinds := [], alts := [], laidByText := true, laidKinds := [.data, .data, .data, .data, .sentinel, .sentinel, .pinned], laidTests := true, laidLooks := .later }
def SpacesInnerUptoCardSaid : Prop := Claim7.holds Tryz.pinned (.plain (OpenSpec.upto spacesInnerSpec)) spacesInnerUptoCard

/-- THE SECOND FORM's CARD OF 'pavanelaw09.TreeParses'. -/
def treeParsesUptoCard : Claim7 := { stood := { row := treeParsesUptoRow, standIns := [], harness := (true, "a203dd287369a0f2cd47524931cbd015b18cb2db62ac0ef814e87fdb3d83a7f0"), looks := true }, kinds := [], alts := [], laidByText := true, laidKinds := [.data, .data, .data, .data, .sentinel, .sentinel, .pinned], laidTests := true, laidLooks := .later }
def TreeParsesUptoCardSaid : Prop := Claim7.holds Tryz.pinned (.plain (OpenSpec.upto treeParsesSpec)) treeParsesUptoCard

/-- THE SECOND FORM's CARD OF 'pavanelaw09.TreeWrites'. -/
def treeWritesUptoCard : Claim7 := { stood := { row := treeWritesUptoRow, standIns := [], harness := (true, "a203dd287369a0f2cd47524931cbd015b18cb2db62ac0ef814e87fdb3d83a7f0"), looks := true }, kinds := [], alts := [], laidByText := true, laidKinds := [.data, .data, .data, .data, .sentinel, .sentinel, .pinned], laidTests := true, laidLooks := .later }
def TreeWritesUptoCardSaid : Prop := Claim7.holds Tryz.pinned (.plain (OpenSpec.upto treeWritesSpec)) treeWritesUptoCard

/-- THE SECOND FORM's CARD OF 'pavanelaw09.TreeBack'. -/
def treeBackUptoCard : Claim7 := { stood := { row := treeBackUptoRow, standIns := [], harness := (true, "a203dd287369a0f2cd47524931cbd015b18cb2db62ac0ef814e87fdb3d83a7f0"), looks := true }, kinds := [], alts := [], laidByText := true, laidKinds := [.data, .data, .data, .data, .sentinel, .sentinel, .pinned], laidTests := true, laidLooks := .later }
def TreeBackUptoCardSaid : Prop := Claim7.holds Tryz.pinned (.plain (OpenSpec.upto treeBackSpec)) treeBackUptoCard

/-- THE SECOND FORM's CARD OF 'pavanelaw09.TreeAgain'. -/
def treeAgainUptoCard : Claim7 := { stood := { row := treeAgainUptoRow, standIns := [], harness := (true, "a203dd287369a0f2cd47524931cbd015b18cb2db62ac0ef814e87fdb3d83a7f0"), looks := true }, kinds := [], alts := [], laidByText := true, laidKinds := [.data, .data, .data, .data, .sentinel, .sentinel, .pinned], laidTests := true, laidLooks := .later }
def TreeAgainUptoCardSaid : Prop := Claim7.holds Tryz.pinned (.plain (OpenSpec.upto treeAgainSpec)) treeAgainUptoCard

/-- THE SECOND FORM's CARD OF 'pavanelaw09.TreeDeep'. -/
def treeDeepUptoCard : Claim7 := { stood := { row := treeDeepUptoRow, standIns := [], harness := (true, "a203dd287369a0f2cd47524931cbd015b18cb2db62ac0ef814e87fdb3d83a7f0"), looks := true }, kinds := [], alts := [], laidByText := true, laidKinds := [.data, .data, .data, .data, .sentinel, .sentinel, .pinned], laidTests := true, laidLooks := .later }
def TreeDeepUptoCardSaid : Prop := Claim7.holds Tryz.pinned (.plain (OpenSpec.upto treeDeepSpec)) treeDeepUptoCard

/-- THE SECOND FORM's CARD OF 'pavanelaw09.TreeTurned'. -/
def treeTurnedUptoCard : Claim7 := { stood := { row := treeTurnedUptoRow, standIns := [], harness := (true, "a203dd287369a0f2cd47524931cbd015b18cb2db62ac0ef814e87fdb3d83a7f0"), looks := true }, kinds := [], alts := [], laidByText := true, laidKinds := [.data, .data, .data, .data, .sentinel, .sentinel, .pinned], laidTests := true, laidLooks := .later }
def TreeTurnedUptoCardSaid : Prop := Claim7.holds Tryz.pinned (.plain (OpenSpec.upto treeTurnedSpec)) treeTurnedUptoCard

/-- THE SECOND FORM's CARD OF 'pavanelaw09.TreeKeeps'. -/
def treeKeepsUptoCard : Claim7 := { stood := { row := treeKeepsUptoRow, standIns := [], harness := (true, "a203dd287369a0f2cd47524931cbd015b18cb2db62ac0ef814e87fdb3d83a7f0"), looks := true }, kinds := [], alts := [], laidByText := true, laidKinds := [.data, .data, .data, .data, .sentinel, .sentinel, .pinned], laidTests := true, laidLooks := .later }
def TreeKeepsUptoCardSaid : Prop := Claim7.holds Tryz.pinned (.plain (OpenSpec.upto treeKeepsSpec)) treeKeepsUptoCard
end Rows
end Go.Proofs.YtokdclmikllepaaGreatDoor
