/-
  DERIVED. GIVEN WITH THE SEED: THE CARDS: each row of YtaolddgnannojaaDoorRows.lean that lists a variable, with what it lists TIED to the program's text (the seventh form; the later family's looks); each row that meets fmt, with fmt's text TOLD by the authors' own Lean function (tested against real Go, not proved from fmt's source: count such statements apart). THE CARD IS WHAT COUNTS. Prove the row's statement (the work); the ties are given (YtaolddgnannojaaDoorTie.lean); close each card by the builder's one call (the guide's Derived/Test/ToyasCard.lean, 'card_holds'). Laid BY PROGRAM, IN A SANDBOX (cutbox-door.mjs). By AI agents, Wed Nov 11 2026. No macro, syntax, notation, axiom, sorry.
-/
import Derived.Test.YtaolddgnannojaaDoorRows
import GoSem.ClaimSeven
namespace Go.Proofs.YtaolddgnannojaaDoor
namespace Rows

/-- THE TIED CARD OF 'mewslaw1.FsFull'. -/
def fsFullCard : Claim7 := { stood := { row := fsFullRow, standIns := [], harness := (true, "5bc94b878afdfb5d6a3704a3f2fe21478a9396452986c0caba31bfb297cfd740"), looks := true }, kinds := [], alts := [], laidByText := true, laidKinds := [.data, .pinned], laidTests := true, laidLooks := .later }
def FsFullCardSaid : Prop := Claim7.holds Tryd.pinned (.plain (OpenSpec.ofChange fsFullSpec)) fsFullCard

/-- THE TIED CARD OF 'mewslaw1.FsReplaces'. -/
def fsReplacesCard : Claim7 := { stood := { row := fsReplacesRow, standIns := [], harness := (true, "5bc94b878afdfb5d6a3704a3f2fe21478a9396452986c0caba31bfb297cfd740"), looks := true }, kinds := [], alts := [], laidByText := true, laidKinds := [.data, .pinned], laidTests := true, laidLooks := .later }
def FsReplacesCardSaid : Prop := Claim7.holds Tryd.pinned (.plain (OpenSpec.ofChange fsReplacesSpec)) fsReplacesCard

/-- THE TIED CARD OF 'mewslaw1.FsRefused'. -/
def fsRefusedCard : Claim7 := { stood := { row := fsRefusedRow, standIns := [], harness := (true, "5bc94b878afdfb5d6a3704a3f2fe21478a9396452986c0caba31bfb297cfd740"), looks := true }, kinds := [], alts := [], laidByText := true, laidKinds := [.data, .pinned], laidTests := true, laidLooks := .later }
def FsRefusedCardSaid : Prop := Claim7.holds Tryd.pinned (.plain (OpenSpec.ofChange fsRefusedSpec)) fsRefusedCard

/-- THE TIED CARD OF 'mewslaw1.FsArmed'. -/
def fsArmedCard : Claim7 := { stood := { row := fsArmedRow, standIns := [], harness := (true, "5bc94b878afdfb5d6a3704a3f2fe21478a9396452986c0caba31bfb297cfd740"), looks := true }, kinds := [], alts := [], laidByText := true, laidKinds := [.data, .pinned], laidTests := true, laidLooks := .later }
def FsArmedCardSaid : Prop := Claim7.holds Tryd.pinned (.plain (OpenSpec.ofChange fsArmedSpec)) fsArmedCard

/-- THE TIED CARD OF 'mewslaw1.FsKept'. -/
def fsKeptCard : Claim7 := { stood := { row := fsKeptRow, standIns := [], harness := (true, "5bc94b878afdfb5d6a3704a3f2fe21478a9396452986c0caba31bfb297cfd740"), looks := true }, kinds := [], alts := [], laidByText := true, laidKinds := [.data, .pinned], laidTests := true, laidLooks := .later }
def FsKeptCardSaid : Prop := Claim7.holds Tryd.pinned (.plain (OpenSpec.ofChange fsKeptSpec)) fsKeptCard

/-- THE TIED CARD OF 'mewslaw1.FsApart'. -/
def fsApartCard : Claim7 := { stood := { row := fsApartRow, standIns := [], harness := (true, "5bc94b878afdfb5d6a3704a3f2fe21478a9396452986c0caba31bfb297cfd740"), looks := true }, kinds := [], alts := [], laidByText := true, laidKinds := [.data, .pinned], laidTests := true, laidLooks := .later }
def FsApartCardSaid : Prop := Claim7.holds Tryd.pinned (.plain (OpenSpec.ofChange fsApartSpec)) fsApartCard

/-- THE SECOND FORM's CARD OF 'mewslaw1.FsFull'. -/
def fsFullUptoCard : Claim7 := { stood := { row := fsFullUptoRow, standIns := [], harness := (true, "5bc94b878afdfb5d6a3704a3f2fe21478a9396452986c0caba31bfb297cfd740"), looks := true }, kinds := [], alts := [], laidByText := true, laidKinds := [.data, .pinned], laidTests := true, laidLooks := .later }
def FsFullUptoCardSaid : Prop := Claim7.holds Tryd.pinned (.plain (OpenSpec.upto fsFullSpec)) fsFullUptoCard

/-- THE SECOND FORM's CARD OF 'mewslaw1.FsReplaces'. -/
def fsReplacesUptoCard : Claim7 := { stood := { row := fsReplacesUptoRow, standIns := [], harness := (true, "5bc94b878afdfb5d6a3704a3f2fe21478a9396452986c0caba31bfb297cfd740"), looks := true }, kinds := [], alts := [], laidByText := true, laidKinds := [.data, .pinned], laidTests := true, laidLooks := .later }
def FsReplacesUptoCardSaid : Prop := Claim7.holds Tryd.pinned (.plain (OpenSpec.upto fsReplacesSpec)) fsReplacesUptoCard

/-- THE SECOND FORM's CARD OF 'mewslaw1.FsRefused'. -/
def fsRefusedUptoCard : Claim7 := { stood := { row := fsRefusedUptoRow, standIns := [], harness := (true, "5bc94b878afdfb5d6a3704a3f2fe21478a9396452986c0caba31bfb297cfd740"), looks := true }, kinds := [], alts := [], laidByText := true, laidKinds := [.data, .pinned], laidTests := true, laidLooks := .later }
def FsRefusedUptoCardSaid : Prop := Claim7.holds Tryd.pinned (.plain (OpenSpec.upto fsRefusedSpec)) fsRefusedUptoCard

/-- THE SECOND FORM's CARD OF 'mewslaw1.FsArmed'. -/
def fsArmedUptoCard : Claim7 := { stood := { row := fsArmedUptoRow, standIns := [], harness := (true, "5bc94b878afdfb5d6a3704a3f2fe21478a9396452986c0caba31bfb297cfd740"), looks := true }, kinds := [], alts := [], laidByText := true, laidKinds := [.data, .pinned], laidTests := true, laidLooks := .later }
def FsArmedUptoCardSaid : Prop := Claim7.holds Tryd.pinned (.plain (OpenSpec.upto fsArmedSpec)) fsArmedUptoCard

/-- THE SECOND FORM's CARD OF 'mewslaw1.FsKept'. -/
def fsKeptUptoCard : Claim7 := { stood := { row := fsKeptUptoRow, standIns := [], harness := (true, "5bc94b878afdfb5d6a3704a3f2fe21478a9396452986c0caba31bfb297cfd740"), looks := true }, kinds := [], alts := [], laidByText := true, laidKinds := [.data, .pinned], laidTests := true, laidLooks := .later }
def FsKeptUptoCardSaid : Prop := Claim7.holds Tryd.pinned (.plain (OpenSpec.upto fsKeptSpec)) fsKeptUptoCard

/-- THE SECOND FORM's CARD OF 'mewslaw1.FsApart'. -/
def fsApartUptoCard : Claim7 := { stood := { row := fsApartUptoRow, standIns := [], harness := (true, "5bc94b878afdfb5d6a3704a3f2fe21478a9396452986c0caba31bfb297cfd740"), looks := true }, kinds := [], alts := [], laidByText := true, laidKinds := [.data, .pinned], laidTests := true, laidLooks := .later }
def FsApartUptoCardSaid : Prop := Claim7.holds Tryd.pinned (.plain (OpenSpec.upto fsApartSpec)) fsApartUptoCard
end Rows
end Go.Proofs.YtaolddgnannojaaDoor
