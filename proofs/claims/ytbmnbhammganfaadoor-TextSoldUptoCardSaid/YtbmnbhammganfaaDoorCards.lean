/-
  DERIVED. GIVEN WITH THE SEED: THE CARDS: each row of YtbmnbhammganfaaDoorRows.lean that lists a variable, with what it lists TIED to the program's text (the seventh form; the later family's looks); each row that meets fmt, with fmt's text TOLD by the authors' own Lean function (tested against real Go, not proved from fmt's source: count such statements apart). THE CARD IS WHAT COUNTS. Prove the row's statement (the work); the ties are given (YtbmnbhammganfaaDoorTie.lean); close each card by the builder's one call (the guide's Derived/Test/ToyasCard.lean, 'card_holds'). Laid BY PROGRAM, IN A SANDBOX (cutbox-door.mjs). By AI agents, Wed Nov 11 2026. No macro, syntax, notation, axiom, sorry.
-/
import Derived.Test.YtbmnbhammganfaaDoorRows
import GoSem.ClaimSeven
namespace Go.Proofs.YtbmnbhammganfaaDoor
namespace Rows

/-- THE TIED CARD OF 'mewslaw23.TextBack'. -/
def textBackCard : Claim7 := { stood := { row := textBackRow, standIns := [], harness := (true, "7d93a554319ec309d91b4d805107383892fe157c5f0dc636042b2228cecec4cd"), looks := true }, kinds := [], alts := [], laidByText := true, laidKinds := [.data, .data, .data, .data, .sentinel, .sentinel, .pinned], laidTests := true, laidLooks := .later }
def TextBackCardSaid : Prop := Claim7.holds Tryd.pinned (.plain (OpenSpec.ofChange textBackSpec)) textBackCard

/-- THE TIED CARD OF 'mewslaw23.TextWords'. -/
def textWordsCard : Claim7 := { stood := { row := textWordsRow, standIns := [], harness := (true, "7d93a554319ec309d91b4d805107383892fe157c5f0dc636042b2228cecec4cd"), looks := true }, kinds := [], alts := [], laidByText := true, laidKinds := [.data, .data, .data, .data, .sentinel, .sentinel, .pinned], laidTests := true, laidLooks := .later }
def TextWordsCardSaid : Prop := Claim7.holds Tryd.pinned (.plain (OpenSpec.ofChange textWordsSpec)) textWordsCard

/-- THE TIED CARD OF 'mewslaw23.TextActs'. -/
def textActsCard : Claim7 := { stood := { row := textActsRow, standIns := [], harness := (true, "7d93a554319ec309d91b4d805107383892fe157c5f0dc636042b2228cecec4cd"), looks := true }, kinds := [], alts := [], laidByText := true, laidKinds := [.data, .data, .data, .data, .sentinel, .sentinel, .pinned], laidTests := true, laidLooks := .later }
def TextActsCardSaid : Prop := Claim7.holds Tryd.pinned (.plain (OpenSpec.ofChange textActsSpec)) textActsCard

/-- THE TIED CARD OF 'mewslaw23.TextBlanks'. -/
def textBlanksCard : Claim7 := { stood := { row := textBlanksRow, standIns := [], harness := (true, "7d93a554319ec309d91b4d805107383892fe157c5f0dc636042b2228cecec4cd"), looks := true }, kinds := [], alts := [], laidByText := true, laidKinds := [.data, .data, .data, .data, .sentinel, .sentinel, .pinned], laidTests := true, laidLooks := .later }
def TextBlanksCardSaid : Prop := Claim7.holds Tryd.pinned (.plain (OpenSpec.ofChange textBlanksSpec)) textBlanksCard

/-- THE TIED CARD OF 'mewslaw23.TextSold'. -/
def textSoldCard : Claim7 := { stood := { row := textSoldRow, standIns := [], harness := (true, "7d93a554319ec309d91b4d805107383892fe157c5f0dc636042b2228cecec4cd"), looks := true }, kinds := [], alts := [], laidByText := true, laidKinds := [.data, .data, .data, .data, .sentinel, .sentinel, .pinned], laidTests := true, laidLooks := .later }
def TextSoldCardSaid : Prop := Claim7.holds Tryd.pinned (.plain (OpenSpec.ofChange textSoldSpec)) textSoldCard

/-- THE SECOND FORM's CARD OF 'mewslaw23.TextBack'. -/
def textBackUptoCard : Claim7 := { stood := { row := textBackUptoRow, standIns := [], harness := (true, "7d93a554319ec309d91b4d805107383892fe157c5f0dc636042b2228cecec4cd"), looks := true }, kinds := [], alts := [], laidByText := true, laidKinds := [.data, .data, .data, .data, .sentinel, .sentinel, .pinned], laidTests := true, laidLooks := .later }
def TextBackUptoCardSaid : Prop := Claim7.holds Tryd.pinned (.plain (OpenSpec.upto textBackSpec)) textBackUptoCard

/-- THE SECOND FORM's CARD OF 'mewslaw23.TextWords'. -/
def textWordsUptoCard : Claim7 := { stood := { row := textWordsUptoRow, standIns := [], harness := (true, "7d93a554319ec309d91b4d805107383892fe157c5f0dc636042b2228cecec4cd"), looks := true }, kinds := [], alts := [], laidByText := true, laidKinds := [.data, .data, .data, .data, .sentinel, .sentinel, .pinned], laidTests := true, laidLooks := .later }
def TextWordsUptoCardSaid : Prop := Claim7.holds Tryd.pinned (.plain (OpenSpec.upto textWordsSpec)) textWordsUptoCard

/-- THE SECOND FORM's CARD OF 'mewslaw23.TextActs'. -/
def textActsUptoCard : Claim7 := { stood := { row := textActsUptoRow, standIns := [], harness := (true, "7d93a554319ec309d91b4d805107383892fe157c5f0dc636042b2228cecec4cd"), looks := true }, kinds := [], alts := [], laidByText := true, laidKinds := [.data, .data, .data, .data, .sentinel, .sentinel, .pinned], laidTests := true, laidLooks := .later }
def TextActsUptoCardSaid : Prop := Claim7.holds Tryd.pinned (.plain (OpenSpec.upto textActsSpec)) textActsUptoCard

/-- THE SECOND FORM's CARD OF 'mewslaw23.TextBlanks'. -/
def textBlanksUptoCard : Claim7 := { stood := { row := textBlanksUptoRow, standIns := [], harness := (true, "7d93a554319ec309d91b4d805107383892fe157c5f0dc636042b2228cecec4cd"), looks := true }, kinds := [], alts := [], laidByText := true, laidKinds := [.data, .data, .data, .data, .sentinel, .sentinel, .pinned], laidTests := true, laidLooks := .later }
def TextBlanksUptoCardSaid : Prop := Claim7.holds Tryd.pinned (.plain (OpenSpec.upto textBlanksSpec)) textBlanksUptoCard

/-- THE SECOND FORM's CARD OF 'mewslaw23.TextSold'. -/
def textSoldUptoCard : Claim7 := { stood := { row := textSoldUptoRow, standIns := [], harness := (true, "7d93a554319ec309d91b4d805107383892fe157c5f0dc636042b2228cecec4cd"), looks := true }, kinds := [], alts := [], laidByText := true, laidKinds := [.data, .data, .data, .data, .sentinel, .sentinel, .pinned], laidTests := true, laidLooks := .later }
def TextSoldUptoCardSaid : Prop := Claim7.holds Tryd.pinned (.plain (OpenSpec.upto textSoldSpec)) textSoldUptoCard
end Rows
end Go.Proofs.YtbmnbhammganfaaDoor
