/-
  DERIVED. GIVEN WITH THE SEED: THE CARDS: each row of YtaolddgnannojaaGreatDoorRows.lean that lists a variable, with what it lists TIED to the program's text (the seventh form; the later family's looks); each row that meets fmt, with fmt's text TOLD by the authors' own Lean function (tested against real Go, not proved from fmt's source: count such statements apart). THE CARD IS WHAT COUNTS. Prove the row's statement (the work); the ties are given (YtaolddgnannojaaGreatDoorTie.lean); close each card by the builder's one call (the guide's Derived/Test/ToyasCard.lean, 'card_holds'). Laid BY PROGRAM, IN A SANDBOX (cutbox-door.mjs). By AI agents, Wed Nov 11 2026. No macro, syntax, notation, axiom, sorry.
-/
import Derived.Test.YtaolddgnannojaaGreatDoorRows
import GoSem.ClaimSeven
namespace Go.Proofs.YtaolddgnannojaaGreatDoor
namespace Rows

/-- THE TIED CARD OF 'mewslaw1.FsPlays'. -/
def fsPlaysCard : Claim7 := { stood := { row := fsPlaysRow, standIns := [], harness := (true, "065c4b160892bec25387dc0b2e20c83938ff9cd095ee792034564366dbd3c5cb"), looks := true }, kinds := [], alts := [], laidByText := true, laidKinds := [.data, .pinned], laidTests := true, laidLooks := .later }
def FsPlaysCardSaid : Prop := Claim7.holds Tryz.pinned (.plain (OpenSpec.ofChange fsPlaysSpec)) fsPlaysCard

/-- THE SECOND FORM's CARD OF 'mewslaw1.FsPlays'. -/
def fsPlaysUptoCard : Claim7 := { stood := { row := fsPlaysUptoRow, standIns := [], harness := (true, "065c4b160892bec25387dc0b2e20c83938ff9cd095ee792034564366dbd3c5cb"), looks := true }, kinds := [], alts := [], laidByText := true, laidKinds := [.data, .pinned], laidTests := true, laidLooks := .later }
def FsPlaysUptoCardSaid : Prop := Claim7.holds Tryz.pinned (.plain (OpenSpec.upto fsPlaysSpec)) fsPlaysUptoCard
end Rows
end Go.Proofs.YtaolddgnannojaaGreatDoor
