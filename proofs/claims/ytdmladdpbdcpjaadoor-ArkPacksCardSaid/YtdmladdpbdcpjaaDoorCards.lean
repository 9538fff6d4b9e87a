/-
  DERIVED. GIVEN WITH THE SEED: THE CARDS: each row of YtdmladdpbdcpjaaDoorRows.lean that lists a variable, with what it lists TIED to the program's text (the seventh form; the later family's looks); each row that meets fmt, with fmt's text TOLD by the authors' own Lean function (tested against real Go, not proved from fmt's source: count such statements apart). THE CARD IS WHAT COUNTS. Prove the row's statement (the work); the ties are given (YtdmladdpbdcpjaaDoorTie.lean); close each card by the builder's one call (the guide's Derived/Test/ToyasCard.lean, 'card_holds'). Laid BY PROGRAM, IN A SANDBOX (cutbox-door.mjs). By AI agents, Wed Nov 11 2026. No macro, syntax, notation, axiom, sorry.
-/
import Derived.Test.YtdmladdpbdcpjaaDoorRows
import GoSem.ClaimSeven
namespace Go.Proofs.YtdmladdpbdcpjaaDoor
namespace Rows

/-- THE TIED CARD OF 'mewslaw6.ArkPacks'. -/
def arkPacksCard : Claim7 := { stood := { row := arkPacksRow, standIns := [], harness := (true, "86532ea38b95ac30a1e28f8295c79ca27108696f7abe02b9855a1301337bf0a4"), looks := false }, kinds := [], alts := [], laidByText := true, laidKinds := [.data, .pinned], laidTests := true, laidLooks := .later }
def ArkPacksCardSaid : Prop := Claim7.holds Tryd.pinned (.plain (OpenSpec.ofChange arkPacksSpec)) arkPacksCard

/-- THE TIED CARD OF 'mewslaw6.ArkTells'. -/
def arkTellsCard : Claim7 := { stood := { row := arkTellsRow, standIns := [], harness := (true, "86532ea38b95ac30a1e28f8295c79ca27108696f7abe02b9855a1301337bf0a4"), looks := false }, kinds := [], alts := [], laidByText := true, laidKinds := [.data, .pinned], laidTests := true, laidLooks := .later }
def ArkTellsCardSaid : Prop := Claim7.holds Tryd.pinned (.plain (OpenSpec.ofChange arkTellsSpec)) arkTellsCard

/-- THE TIED CARD OF 'mewslaw6.ArkUnpacks'. -/
def arkUnpacksCard : Claim7 := { stood := { row := arkUnpacksRow, standIns := [], harness := (true, "86532ea38b95ac30a1e28f8295c79ca27108696f7abe02b9855a1301337bf0a4"), looks := false }, kinds := [], alts := [], laidByText := true, laidKinds := [.data, .pinned], laidTests := true, laidLooks := .later }
def ArkUnpacksCardSaid : Prop := Claim7.holds Tryd.pinned (.plain (OpenSpec.ofChange arkUnpacksSpec)) arkUnpacksCard

/-- THE TIED CARD OF 'mewslaw6.ArkLong'. -/
def arkLongCard : Claim7 := { stood := { row := arkLongRow, standIns := [], harness := (true, "86532ea38b95ac30a1e28f8295c79ca27108696f7abe02b9855a1301337bf0a4"), looks := false }, kinds := [], alts := [], laidByText := true, laidKinds := [.data, .pinned], laidTests := true, laidLooks := .later }
def ArkLongCardSaid : Prop := Claim7.holds Tryd.pinned (.plain (OpenSpec.ofChange arkLongSpec)) arkLongCard

/-- THE TIED CARD OF 'mewslaw6.ArkOneForm'. -/
def arkOneFormCard : Claim7 := { stood := { row := arkOneFormRow, standIns := [], harness := (true, "86532ea38b95ac30a1e28f8295c79ca27108696f7abe02b9855a1301337bf0a4"), looks := false }, kinds := [], alts := [], laidByText := true, laidKinds := [.data, .pinned], laidTests := true, laidLooks := .later }
def ArkOneFormCardSaid : Prop := Claim7.holds Tryd.pinned (.plain (OpenSpec.ofChange arkOneFormSpec)) arkOneFormCard

/-- THE TIED CARD OF 'mewslaw6.ArkSums'. -/
def arkSumsCard : Claim7 := { stood := { row := arkSumsRow, standIns := [], harness := (true, "86532ea38b95ac30a1e28f8295c79ca27108696f7abe02b9855a1301337bf0a4"), looks := false }, kinds := [], alts := [], laidByText := true, laidKinds := [.data, .pinned], laidTests := true, laidLooks := .later }
def ArkSumsCardSaid : Prop := Claim7.holds Tryd.pinned (.plain (OpenSpec.ofChange arkSumsSpec)) arkSumsCard

/-- THE TIED CARD OF 'mewslaw6.ArkBack'. -/
def arkBackCard : Claim7 := { stood := { row := arkBackRow, standIns := [], harness := (true, "86532ea38b95ac30a1e28f8295c79ca27108696f7abe02b9855a1301337bf0a4"), looks := false }, kinds := [], alts := [], laidByText := true, laidKinds := [.data, .pinned], laidTests := true, laidLooks := .later }
def ArkBackCardSaid : Prop := Claim7.holds Tryd.pinned (.plain (OpenSpec.ofChange arkBackSpec)) arkBackCard

/-- THE SECOND FORM's CARD OF 'mewslaw6.ArkPacks'. -/
def arkPacksUptoCard : Claim7 := { stood := { row := arkPacksUptoRow, standIns := [], harness := (true, "86532ea38b95ac30a1e28f8295c79ca27108696f7abe02b9855a1301337bf0a4"), looks := false }, kinds := [], alts := [], laidByText := true, laidKinds := [.data, .pinned], laidTests := true, laidLooks := .later }
def ArkPacksUptoCardSaid : Prop := Claim7.holds Tryd.pinned (.plain (OpenSpec.upto arkPacksSpec)) arkPacksUptoCard

/-- THE SECOND FORM's CARD OF 'mewslaw6.ArkTells'. -/
def arkTellsUptoCard : Claim7 := { stood := { row := arkTellsUptoRow, standIns := [], harness := (true, "86532ea38b95ac30a1e28f8295c79ca27108696f7abe02b9855a1301337bf0a4"), looks := false }, kinds := [], alts := [], laidByText := true, laidKinds := [.data, .pinned], laidTests := true, laidLooks := .later }
def ArkTellsUptoCardSaid : Prop := Claim7.holds Tryd.pinned (.plain (OpenSpec.upto arkTellsSpec)) arkTellsUptoCard

/-- THE SECOND FORM's CARD OF 'mewslaw6.ArkUnpacks'. -/
def arkUnpacksUptoCard : Claim7 := { stood := { row := arkUnpacksUptoRow, standIns := [], harness := (true, "86532ea38b95ac30a1e28f8295c79ca27108696f7abe02b9855a1301337bf0a4"), looks := false }, kinds := [], alts := [], laidByText := true, laidKinds := [.data, .pinned], laidTests := true, laidLooks := .later }
def ArkUnpacksUptoCardSaid : Prop := Claim7.holds Tryd.pinned (.plain (OpenSpec.upto arkUnpacksSpec)) arkUnpacksUptoCard

/-- THE SECOND FORM's CARD OF 'mewslaw6.ArkLong'. -/
def arkLongUptoCard : Claim7 := { stood := { row := arkLongUptoRow, standIns := [], harness := (true, "86532ea38b95ac30a1e28f8295c79ca27108696f7abe02b9855a1301337bf0a4"), looks := false }, kinds := [], alts := [], laidByText := true, laidKinds := [.data, .pinned], laidTests := true, laidLooks := .later }
def ArkLongUptoCardSaid : Prop := Claim7.holds Tryd.pinned (.plain (OpenSpec.upto arkLongSpec)) arkLongUptoCard

/-- THE SECOND FORM's CARD OF 'mewslaw6.ArkOneForm'. -/
def arkOneFormUptoCard : Claim7 := { stood := { row := arkOneFormUptoRow, standIns := [], harness := (true, "86532ea38b95ac30a1e28f8295c79ca27108696f7abe02b9855a1301337bf0a4"), looks := false }, kinds := [], alts := [], laidByText := true, laidKinds := [.data, .pinned], laidTests := true, laidLooks := .later }
def ArkOneFormUptoCardSaid : Prop := Claim7.holds Tryd.pinned (.plain (OpenSpec.upto arkOneFormSpec)) arkOneFormUptoCard

/-- THE SECOND FORM's CARD OF 'mewslaw6.ArkSums'. -/
def arkSumsUptoCard : Claim7 := { stood := { row := arkSumsUptoRow, standIns := [], harness := (true, "86532ea38b95ac30a1e28f8295c79ca27108696f7abe02b9855a1301337bf0a4"), looks := false }, kinds := [], alts := [], laidByText := true, laidKinds := [.data, .pinned], laidTests := true, laidLooks := .later }
def ArkSumsUptoCardSaid : Prop := Claim7.holds Tryd.pinned (.plain (OpenSpec.upto arkSumsSpec)) arkSumsUptoCard

/-- THE SECOND FORM's CARD OF 'mewslaw6.ArkBack'. -/
def arkBackUptoCard : Claim7 := { stood := { row := arkBackUptoRow, standIns := [], harness := (true, "86532ea38b95ac30a1e28f8295c79ca27108696f7abe02b9855a1301337bf0a4"), looks := false }, kinds := [], alts := [], laidByText := true, laidKinds := [.data, .pinned], laidTests := true, laidLooks := .later }
def ArkBackUptoCardSaid : Prop := Claim7.holds Tryd.pinned (.plain (OpenSpec.upto arkBackSpec)) arkBackUptoCard
end Rows
end Go.Proofs.YtdmladdpbdcpjaaDoor
