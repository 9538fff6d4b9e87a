/-
  DERIVED. GIVEN WITH THE SEED: THE CARDS: each row of YtniphdhbgebedaaGreatDoorRows.lean that lists a variable, with what it lists TIED to the program's text (the seventh form; the later family's looks); each row that meets fmt, with fmt's text TOLD by the authors' own Lean function (tested against real Go, not proved from fmt's source: count such statements apart). THE CARD IS WHAT COUNTS. Prove the row's statement (the work); the ties are given (YtniphdhbgebedaaGreatDoorTie.lean); close each card by the builder's one call (the guide's Derived/Test/ToyasCard.lean, 'card_holds'). Laid BY PROGRAM, IN A SANDBOX (cutbox-door.mjs). By AI agents, Wed Nov 11 2026. No macro, syntax, notation, axiom, sorry.
-/
import Derived.Test.YtniphdhbgebedaaGreatDoorRows
import GoSem.ClaimSeven
namespace Go.Proofs.YtniphdhbgebedaaGreatDoor
namespace Rows

/-- THE TIED CARD OF 'mewslaw14.ScanFront'. -/
def scanFrontCard : Claim7 := { stood := { row := scanFrontRow, standIns := [], harness := (true, "a5ae243dc77f4fdcb7531a42f5bac855bc0a7cf44d2eef1b8758dcd979bef478"), looks := false }, kinds := [], alts := [], laidByText := true, laidKinds := [.data, .pinned], laidTests := true, laidLooks := .later }
def ScanFrontCardSaid : Prop := Claim7.holds Tryz.pinned (.plain (OpenSpec.ofChange scanFrontSpec)) scanFrontCard

/-- THE TIED CARD OF 'mewslaw14.ScanEvals'. -/
def scanEvalsCard : Claim7 := { stood := { row := scanEvalsRow, standIns := [], harness := (true, "a5ae243dc77f4fdcb7531a42f5bac855bc0a7cf44d2eef1b8758dcd979bef478"), looks := false }, kinds := [], alts := [], laidByText := true, laidKinds := [.data, .pinned], laidTests := true, laidLooks := .later }
def ScanEvalsCardSaid : Prop := Claim7.holds Tryz.pinned (.plain (OpenSpec.ofChange scanEvalsSpec)) scanEvalsCard

/-- THE TIED CARD OF 'mewslaw14.ScanTruth'. -/
def scanTruthCard : Claim7 := { stood := { row := scanTruthRow, standIns := [], harness := (true, "a5ae243dc77f4fdcb7531a42f5bac855bc0a7cf44d2eef1b8758dcd979bef478"), looks := false }, kinds := [], alts := [], laidByText := true, laidKinds := [.data, .pinned], laidTests := true, laidLooks := .later }
def ScanTruthCardSaid : Prop := Claim7.holds Tryz.pinned (.plain (OpenSpec.ofChange scanTruthSpec)) scanTruthCard

/-- THE TIED CARD OF 'mewslaw14.ScanNearest'. -/
def scanNearestCard : Claim7 := { stood := { row := scanNearestRow, standIns := [], harness := (true, "a5ae243dc77f4fdcb7531a42f5bac855bc0a7cf44d2eef1b8758dcd979bef478"), looks := false }, kinds := [], alts := [], laidByText := true, laidKinds := [.data, .pinned], laidTests := true, laidLooks := .later }
def ScanNearestCardSaid : Prop := Claim7.holds Tryz.pinned (.plain (OpenSpec.ofChange scanNearestSpec)) scanNearestCard

/-- THE TIED CARD OF 'mewslaw14.ScanNames'. -/
def scanNamesCard : Claim7 := { stood := { row := scanNamesRow, standIns := [], harness := (true, "a5ae243dc77f4fdcb7531a42f5bac855bc0a7cf44d2eef1b8758dcd979bef478"), looks := false }, kinds := [], alts := [], laidByText := true, laidKinds := [.data, .pinned], laidTests := true, laidLooks := .later }
def ScanNamesCardSaid : Prop := Claim7.holds Tryz.pinned (.plain (OpenSpec.ofChange scanNamesSpec)) scanNamesCard

/-- THE TIED CARD OF 'mewslaw14.ScanMerged'. -/
def scanMergedCard : Claim7 := { stood := { row := scanMergedRow, standIns := [], harness := (true, "a5ae243dc77f4fdcb7531a42f5bac855bc0a7cf44d2eef1b8758dcd979bef478"), looks := false }, kinds := [], alts := [], laidByText := true, laidKinds := [.data, .pinned], laidTests := true, laidLooks := .later }
def ScanMergedCardSaid : Prop := Claim7.holds Tryz.pinned (.plain (OpenSpec.ofChange scanMergedSpec)) scanMergedCard

/-- THE TIED CARD OF 'mewslaw14.ScanTags'. -/
def scanTagsCard : Claim7 := { stood := { row := scanTagsRow, standIns := [], harness := (true, "a5ae243dc77f4fdcb7531a42f5bac855bc0a7cf44d2eef1b8758dcd979bef478"), looks := false }, kinds := [], alts := [], laidByText := true, laidKinds := [.data, .pinned], laidTests := true, laidLooks := .later }
def ScanTagsCardSaid : Prop := Claim7.holds Tryz.pinned (.plain (OpenSpec.ofChange scanTagsSpec)) scanTagsCard

/-- THE SECOND FORM's CARD OF 'mewslaw14.ScanFront'. -/
def scanFrontUptoCard : Claim7 := { stood := { row := scanFrontUptoRow, standIns := [], harness := (true, "a5ae243dc77f4fdcb7531a42f5bac855bc0a7cf44d2eef1b8758dcd979bef478"), looks := false }, kinds := [], alts := [], laidByText := true, laidKinds := [.data, .pinned], laidTests := true, laidLooks := .later }
def ScanFrontUptoCardSaid : Prop := Claim7.holds Tryz.pinned (.plain (OpenSpec.upto scanFrontSpec)) scanFrontUptoCard

/-- THE SECOND FORM's CARD OF 'mewslaw14.ScanEvals'. -/
def scanEvalsUptoCard : Claim7 := { stood := { row := scanEvalsUptoRow, standIns := [], harness := (true, "a5ae243dc77f4fdcb7531a42f5bac855bc0a7cf44d2eef1b8758dcd979bef478"), looks := false }, kinds := [], alts := [], laidByText := true, laidKinds := [.data, .pinned], laidTests := true, laidLooks := .later }
def ScanEvalsUptoCardSaid : Prop := Claim7.holds Tryz.pinned (.plain (OpenSpec.upto scanEvalsSpec)) scanEvalsUptoCard

/-- THE SECOND FORM's CARD OF 'mewslaw14.ScanTruth'. -/
def scanTruthUptoCard : Claim7 := { stood := { row := scanTruthUptoRow, standIns := [], harness := (true, "a5ae243dc77f4fdcb7531a42f5bac855bc0a7cf44d2eef1b8758dcd979bef478"), looks := false }, kinds := [], alts := [], laidByText := true, laidKinds := [.data, .pinned], laidTests := true, laidLooks := .later }
def ScanTruthUptoCardSaid : Prop := Claim7.holds Tryz.pinned (.plain (OpenSpec.upto scanTruthSpec)) scanTruthUptoCard

/-- THE SECOND FORM's CARD OF 'mewslaw14.ScanNearest'. -/
def scanNearestUptoCard : Claim7 := { stood := { row := scanNearestUptoRow, standIns := [], harness := (true, "a5ae243dc77f4fdcb7531a42f5bac855bc0a7cf44d2eef1b8758dcd979bef478"), looks := false }, kinds := [], alts := [], laidByText := true, laidKinds := [.data, .pinned], laidTests := true, laidLooks := .later }
def ScanNearestUptoCardSaid : Prop := Claim7.holds Tryz.pinned (.plain (OpenSpec.upto scanNearestSpec)) scanNearestUptoCard

/-- THE SECOND FORM's CARD OF 'mewslaw14.ScanNames'. -/
def scanNamesUptoCard : Claim7 := { stood := { row := scanNamesUptoRow, standIns := [], harness := (true, "a5ae243dc77f4fdcb7531a42f5bac855bc0a7cf44d2eef1b8758dcd979bef478"), looks := false }, kinds := [], alts := [], laidByText := true, laidKinds := [.data, .pinned], laidTests := true, laidLooks := .later }
def ScanNamesUptoCardSaid : Prop := Claim7.holds Tryz.pinned (.plain (OpenSpec.upto scanNamesSpec)) scanNamesUptoCard

/-- THE SECOND FORM's CARD OF 'mewslaw14.ScanMerged'. -/
def scanMergedUptoCard : Claim7 := { stood := { row := scanMergedUptoRow, standIns := [], harness := (true, "a5ae243dc77f4fdcb7531a42f5bac855bc0a7cf44d2eef1b8758dcd979bef478"), looks := false }, kinds := [], alts := [], laidByText := true, laidKinds := [.data, .pinned], laidTests := true, laidLooks := .later }
def ScanMergedUptoCardSaid : Prop := Claim7.holds Tryz.pinned (.plain (OpenSpec.upto scanMergedSpec)) scanMergedUptoCard

/-- THE SECOND FORM's CARD OF 'mewslaw14.ScanTags'. -/
def scanTagsUptoCard : Claim7 := { stood := { row := scanTagsUptoRow, standIns := [], harness := (true, "a5ae243dc77f4fdcb7531a42f5bac855bc0a7cf44d2eef1b8758dcd979bef478"), looks := false }, kinds := [], alts := [], laidByText := true, laidKinds := [.data, .pinned], laidTests := true, laidLooks := .later }
def ScanTagsUptoCardSaid : Prop := Claim7.holds Tryz.pinned (.plain (OpenSpec.upto scanTagsSpec)) scanTagsUptoCard
end Rows
end Go.Proofs.YtniphdhbgebedaaGreatDoor
