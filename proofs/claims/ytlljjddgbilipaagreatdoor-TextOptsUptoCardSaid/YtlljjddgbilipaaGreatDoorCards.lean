/-
  DERIVED. GIVEN WITH THE SEED: THE CARDS: each row of YtlljjddgbilipaaGreatDoorRows.lean that lists a variable, with what it lists TIED to the program's text (the seventh form; the later family's looks); each row that meets fmt, with fmt's text TOLD by the authors' own Lean function (tested against real Go, not proved from fmt's source: count such statements apart). THE CARD IS WHAT COUNTS. Prove the row's statement (the work); the ties are given (YtlljjddgbilipaaGreatDoorTie.lean); close each card by the builder's one call (the guide's Derived/Test/ToyasCard.lean, 'card_holds'). Laid BY PROGRAM, IN A SANDBOX (cutbox-door.mjs). By AI agents, Wed Nov 11 2026. No macro, syntax, notation, axiom, sorry.
-/
import Derived.Test.YtlljjddgbilipaaGreatDoorRows
import GoSem.ClaimSeven
namespace Go.Proofs.YtlljjddgbilipaaGreatDoor
namespace Rows

/-- THE TIED CARD OF 'mewslaw23.TextOpts'. -/
def textOptsCard : Claim7 := { stood := { row := textOptsRow, standIns := [], harness := (true, "32ff246e073f3015e59c29b098c08723ba20f10d0ab8b89c7c6ec6e4dfec891b"), looks := true }, kinds := [], alts := [], laidByText := true, laidKinds := [.data, .data, .data, .data, .sentinel, .sentinel, .pinned], laidTests := true, laidLooks := .later }
def TextOptsCardSaid : Prop := Claim7.holds Tryz.pinned (.plain (OpenSpec.ofChange textOptsSpec)) textOptsCard

/-- THE SECOND FORM's CARD OF 'mewslaw23.TextOpts'. -/
def textOptsUptoCard : Claim7 := { stood := { row := textOptsUptoRow, standIns := [], harness := (true, "32ff246e073f3015e59c29b098c08723ba20f10d0ab8b89c7c6ec6e4dfec891b"), looks := true }, kinds := [], alts := [], laidByText := true, laidKinds := [.data, .data, .data, .data, .sentinel, .sentinel, .pinned], laidTests := true, laidLooks := .later }
def TextOptsUptoCardSaid : Prop := Claim7.holds Tryz.pinned (.plain (OpenSpec.upto textOptsSpec)) textOptsUptoCard
end Rows
end Go.Proofs.YtlljjddgbilipaaGreatDoor
