/-
  NARROWER THAN 'FOR EVERY INPUT', by the rows' own cells (each row's printed sentence says how): FsFull: laid · FsReplaces: laid · FsRefused: laid · FsArmed: laid · FsKept: laid · FsApart: laid.
  DERIVED. THE GIVEN ROWS OF THIS SEAT. 6 by the template 'for every input the law returns true; each argument reads behind the call as it read before'; 0 by the template 'total and deterministic' (their statements: YtaolddgnannojaaDoorTotals.lean).
  GIVEN WITH THE SEED: the statements are not yours to turn. If you find one false, say at which input.
  Laid BY PROGRAM, IN A SANDBOX (cutbox-rows.mjs): the forced cells as the released guide's own fill.sh prints them over the translation 0b68c7238023559c… (all of the seat's roots in one cut). By AI agents, Wed Nov 11 2026. No macro, syntax, notation, axiom, sorry.
-/
import Derived.Test.YtaolddgnannojaaDoorChecked
import GoSem.PinnedTables
import GoSem.Claim
import GoSem.ClaimJoined
import GoSem.ClaimMapViews
import Derived.JoinedTies
import Derived.KernelRfl
namespace Go.Proofs.YtaolddgnannojaaDoor
/- THE CELL 'sum', in the pinned program and in every row, IS THE sha256 OF THE DUMP (.gsa) THAT YtaolddgnannojaaDoorProg.lean LOADS. Nothing in Lean hashes anything: it is a label: what it is worth is what the hold of that sum in a sandbox is worth. -/
noncomputable def Tryd.pinned : Pinned := { name := "ytaolddgnannojaadoor", sum := "0b68c7238023559cff9ff77a28ec22f1b4a50915d06cc6183470312d518c8742", checked := Tryd.checked }
namespace Rows
def none {H : Type} : Left H := { results := [], args := [] }

/- WHAT THE LISTED PACKAGE-LEVEL VARIABLES READ AS WHEN THE CALL BEGINS. Each datum BY PROGRAM (the guide's laid-datum.mjs) off the statement by which the dump's own 'gosem.cut.vars' lays the variable. In a bare row this is a premise. The card (YtaolddgnannojaaDoorCards.lean) ties it to the program's text. -/
def laid_unicode_utf8_acceptRanges {H : Type} : DataW H := .agg [.agg [.lit (.int .u8 128), .lit (.int .u8 191)], .agg [.lit (.int .u8 160), .lit (.int .u8 191)], .agg [.lit (.int .u8 128), .lit (.int .u8 159)], .agg [.lit (.int .u8 144), .lit (.int .u8 191)], .agg [.lit (.int .u8 128), .lit (.int .u8 143)], .agg [.lit (.int .u8 0), .lit (.int .u8 0)], .agg [.lit (.int .u8 0), .lit (.int .u8 0)], .agg [.lit (.int .u8 0), .lit (.int .u8 0)], .agg [.lit (.int .u8 0), .lit (.int .u8 0)], .agg [.lit (.int .u8 0), .lit (.int .u8 0)], .agg [.lit (.int .u8 0), .lit (.int .u8 0)], .agg [.lit (.int .u8 0), .lit (.int .u8 0)], .agg [.lit (.int .u8 0), .lit (.int .u8 0)], .agg [.lit (.int .u8 0), .lit (.int .u8 0)], .agg [.lit (.int .u8 0), .lit (.int .u8 0)], .agg [.lit (.int .u8 0), .lit (.int .u8 0)]]
/-- One of Go's own tables, pinned by name: the form's constant. -/
def laid_unicode_utf8_first : DataW Unit := Go.Pinned.utf8First

/-- 'mewslaw1.FsFull': WHATEVER THE INPUT: true; the input reads as it did. -/
def fsFullSpec : ChangeSpec := { name := "fsFull", fn := fun _ => fun
  | [d1, d2, d3] => { results := [.lit (.bool true)], args := [d1, d2, d3] }
  | _ => none }
def fsFullRow : OpenClaim := { program := "ytaolddgnannojaadoor", sum := "0b68c7238023559cff9ff77a28ec22f1b4a50915d06cc6183470312d518c8742", func := "mews/mewslaw1.FsFull", spec := "fsFull", inPlace := ["internal/bytealg.CountString", "internal/bytealg.IndexByteString", "internal/bytealg.IndexString"], unfollowed := true, recurses := true, named := ["unicode/utf8.first", "unicode/utf8.acceptRanges", "internal/bytealg.MaxLen"], apart := false, laid := [("unicode/utf8.acceptRanges", laid_unicode_utf8_acceptRanges), ("unicode/utf8.first", laid_unicode_utf8_first)] }
def FsFullSaid : Prop := fsFullRow.holds Tryd.pinned (OpenSpec.ofChange fsFullSpec)

/-- ITS FALSE NEIGHBOUR: 'it returns false'. Refute it at one input. -/
def fsFullWrong : ChangeSpec := { name := "fsFull", fn := fun _ => fun
  | [d1, d2, d3] => { results := [.lit (.bool false)], args := [d1, d2, d3] }
  | _ => none }
def FsFullWrongFalsely : Prop := fsFullRow.holds Tryd.pinned (OpenSpec.ofChange fsFullWrong)

/-- 'mewslaw1.FsReplaces': WHATEVER THE INPUT: true; the input reads as it did. -/
def fsReplacesSpec : ChangeSpec := { name := "fsReplaces", fn := fun _ => fun
  | [d1, d2, d3, d4, d5, d6, d7, d8] => { results := [.lit (.bool true)], args := [d1, d2, d3, d4, d5, d6, d7, d8] }
  | _ => none }
def fsReplacesRow : OpenClaim := { program := "ytaolddgnannojaadoor", sum := "0b68c7238023559cff9ff77a28ec22f1b4a50915d06cc6183470312d518c8742", func := "mews/mewslaw1.FsReplaces", spec := "fsReplaces", inPlace := ["internal/bytealg.CountString", "internal/bytealg.IndexByteString", "internal/bytealg.IndexString", "maps.clone"], unfollowed := true, recurses := true, named := ["unicode/utf8.first", "unicode/utf8.acceptRanges", "internal/bytealg.MaxLen"], apart := false, laid := [("unicode/utf8.acceptRanges", laid_unicode_utf8_acceptRanges), ("unicode/utf8.first", laid_unicode_utf8_first)] }
def FsReplacesSaid : Prop := fsReplacesRow.holds Tryd.pinned (OpenSpec.ofChange fsReplacesSpec)

/-- ITS FALSE NEIGHBOUR: 'it returns false'. Refute it at one input. -/
def fsReplacesWrong : ChangeSpec := { name := "fsReplaces", fn := fun _ => fun
  | [d1, d2, d3, d4, d5, d6, d7, d8] => { results := [.lit (.bool false)], args := [d1, d2, d3, d4, d5, d6, d7, d8] }
  | _ => none }
def FsReplacesWrongFalsely : Prop := fsReplacesRow.holds Tryd.pinned (OpenSpec.ofChange fsReplacesWrong)

/-- 'mewslaw1.FsRefused': WHATEVER THE INPUT: true; the input reads as it did. -/
def fsRefusedSpec : ChangeSpec := { name := "fsRefused", fn := fun _ => fun
  | [d1, d2] => { results := [.lit (.bool true)], args := [d1, d2] }
  | _ => none }
def fsRefusedRow : OpenClaim := { program := "ytaolddgnannojaadoor", sum := "0b68c7238023559cff9ff77a28ec22f1b4a50915d06cc6183470312d518c8742", func := "mews/mewslaw1.FsRefused", spec := "fsRefused", inPlace := ["internal/bytealg.CountString", "internal/bytealg.IndexByteString", "internal/bytealg.IndexString", "maps.clone"], unfollowed := true, recurses := true, named := ["unicode/utf8.first", "unicode/utf8.acceptRanges", "internal/bytealg.MaxLen"], apart := false, laid := [("unicode/utf8.acceptRanges", laid_unicode_utf8_acceptRanges), ("unicode/utf8.first", laid_unicode_utf8_first)] }
def FsRefusedSaid : Prop := fsRefusedRow.holds Tryd.pinned (OpenSpec.ofChange fsRefusedSpec)

/-- ITS FALSE NEIGHBOUR: 'it returns false'. Refute it at one input. -/
def fsRefusedWrong : ChangeSpec := { name := "fsRefused", fn := fun _ => fun
  | [d1, d2] => { results := [.lit (.bool false)], args := [d1, d2] }
  | _ => none }
def FsRefusedWrongFalsely : Prop := fsRefusedRow.holds Tryd.pinned (OpenSpec.ofChange fsRefusedWrong)

/-- 'mewslaw1.FsArmed': WHATEVER THE INPUT: true; the input reads as it did. -/
def fsArmedSpec : ChangeSpec := { name := "fsArmed", fn := fun _ => fun
  | [d1, d2, d3] => { results := [.lit (.bool true)], args := [d1, d2, d3] }
  | _ => none }
def fsArmedRow : OpenClaim := { program := "ytaolddgnannojaadoor", sum := "0b68c7238023559cff9ff77a28ec22f1b4a50915d06cc6183470312d518c8742", func := "mews/mewslaw1.FsArmed", spec := "fsArmed", inPlace := ["internal/bytealg.CountString", "internal/bytealg.IndexByteString", "internal/bytealg.IndexString", "maps.clone"], unfollowed := true, recurses := true, named := ["unicode/utf8.first", "unicode/utf8.acceptRanges", "internal/bytealg.MaxLen"], apart := false, laid := [("unicode/utf8.acceptRanges", laid_unicode_utf8_acceptRanges), ("unicode/utf8.first", laid_unicode_utf8_first)] }
def FsArmedSaid : Prop := fsArmedRow.holds Tryd.pinned (OpenSpec.ofChange fsArmedSpec)

/-- ITS FALSE NEIGHBOUR: 'it returns false'. Refute it at one input. -/
def fsArmedWrong : ChangeSpec := { name := "fsArmed", fn := fun _ => fun
  | [d1, d2, d3] => { results := [.lit (.bool false)], args := [d1, d2, d3] }
  | _ => none }
def FsArmedWrongFalsely : Prop := fsArmedRow.holds Tryd.pinned (OpenSpec.ofChange fsArmedWrong)

/-- 'mewslaw1.FsKept': WHATEVER THE INPUT: true; the input reads as it did. -/
def fsKeptSpec : ChangeSpec := { name := "fsKept", fn := fun _ => fun
  | [d1, d2, d3, d4, d5] => { results := [.lit (.bool true)], args := [d1, d2, d3, d4, d5] }
  | _ => none }
def fsKeptRow : OpenClaim := { program := "ytaolddgnannojaadoor", sum := "0b68c7238023559cff9ff77a28ec22f1b4a50915d06cc6183470312d518c8742", func := "mews/mewslaw1.FsKept", spec := "fsKept", inPlace := ["internal/bytealg.CountString", "internal/bytealg.IndexByteString", "internal/bytealg.IndexString", "maps.clone"], unfollowed := true, recurses := true, named := ["unicode/utf8.first", "unicode/utf8.acceptRanges", "internal/bytealg.MaxLen"], apart := false, laid := [("unicode/utf8.acceptRanges", laid_unicode_utf8_acceptRanges), ("unicode/utf8.first", laid_unicode_utf8_first)] }
def FsKeptSaid : Prop := fsKeptRow.holds Tryd.pinned (OpenSpec.ofChange fsKeptSpec)

/-- ITS FALSE NEIGHBOUR: 'it returns false'. Refute it at one input. -/
def fsKeptWrong : ChangeSpec := { name := "fsKept", fn := fun _ => fun
  | [d1, d2, d3, d4, d5] => { results := [.lit (.bool false)], args := [d1, d2, d3, d4, d5] }
  | _ => none }
def FsKeptWrongFalsely : Prop := fsKeptRow.holds Tryd.pinned (OpenSpec.ofChange fsKeptWrong)

/-- 'mewslaw1.FsApart': WHATEVER THE INPUT: true; the input reads as it did. -/
def fsApartSpec : ChangeSpec := { name := "fsApart", fn := fun _ => fun
  | [d1, d2, d3] => { results := [.lit (.bool true)], args := [d1, d2, d3] }
  | _ => none }
def fsApartRow : OpenClaim := { program := "ytaolddgnannojaadoor", sum := "0b68c7238023559cff9ff77a28ec22f1b4a50915d06cc6183470312d518c8742", func := "mews/mewslaw1.FsApart", spec := "fsApart", inPlace := ["internal/bytealg.CountString", "internal/bytealg.IndexByteString", "internal/bytealg.IndexString", "maps.clone"], unfollowed := true, recurses := true, named := ["unicode/utf8.first", "unicode/utf8.acceptRanges", "internal/bytealg.MaxLen"], apart := false, laid := [("unicode/utf8.acceptRanges", laid_unicode_utf8_acceptRanges), ("unicode/utf8.first", laid_unicode_utf8_first)] }
def FsApartSaid : Prop := fsApartRow.holds Tryd.pinned (OpenSpec.ofChange fsApartSpec)

/-- ITS FALSE NEIGHBOUR: 'it returns false'. Refute it at one input. -/
def fsApartWrong : ChangeSpec := { name := "fsApart", fn := fun _ => fun
  | [d1, d2, d3] => { results := [.lit (.bool false)], args := [d1, d2, d3] }
  | _ => none }
def FsApartWrongFalsely : Prop := fsApartRow.holds Tryd.pinned (OpenSpec.ofChange fsApartWrong)

/- THE SECOND FORM. 'bulk': how many values and letters a reading holds, each counted each time it is reached (what is shared counts as often as it is met; a slice's spare places count too). A statement '..UptoSaid' is the law's where the arguments, and the package variables that the reading takes, are together of bulk at most 1048576: NARROWER than '..Said'. Prove '..Said' where nothing that the law and all that it calls make is longer than what came in: it says more and counts as full. Else prove '..UptoSaid'. A law counts once. -/
mutual
def uptoBulk {H : Type} : DataW H → Nat
  | .lit (.string bytes) => bytes.length + 1
  | .lit _ => 1
  | .nil => 1
  | .ptr d => uptoBulk d + 1
  | .slice elems spare => uptoBulkAll elems + uptoBulkAll spare + 1
  | .agg parts => uptoBulkAll parts + 1
  | .iface _ d => uptoBulk d + 1
  | .map entries => uptoBulkEntries entries + 1
  | .held _ => 1
def uptoBulkAll {H : Type} : List (DataW H) → Nat
  | [] => 0
  | d :: r => uptoBulk d + uptoBulkAll r
def uptoBulkEntries {H : Type} : List (Lit × DataW H) → Nat
  | [] => 0
  | x :: r => uptoBulkEntry x + uptoBulkEntries r
def uptoBulkEntry {H : Type} : Lit × DataW H → Nat
  | (.string bytes, d) => bytes.length + uptoBulk d + 1
  | (_, d) => uptoBulk d + 1
 end
def uptoSmall : (H : Type) → List (DataW H) → Bool := fun _ ds => decide (uptoBulkAll ds ≤ 1048576)
def OpenSpec.upto (s : _root_.Go.ChangeSpec) : _root_.Go.OpenSpec := { _root_.Go.OpenSpec.ofChange s with cond := some uptoSmall }

/-- 'mewslaw1.FsFull', WHERE WHAT IT READS IS OF BULK AT MOST 1048576: true; the input reads as it did. -/
def fsFullUptoRow : OpenClaim := { program := "ytaolddgnannojaadoor", sum := "0b68c7238023559cff9ff77a28ec22f1b4a50915d06cc6183470312d518c8742", func := "mews/mewslaw1.FsFull", spec := "fsFull", inPlace := ["internal/bytealg.CountString", "internal/bytealg.IndexByteString", "internal/bytealg.IndexString"], unfollowed := true, recurses := true, named := ["unicode/utf8.first", "unicode/utf8.acceptRanges", "internal/bytealg.MaxLen"], apart := false, laid := [("unicode/utf8.acceptRanges", laid_unicode_utf8_acceptRanges), ("unicode/utf8.first", laid_unicode_utf8_first)], narrowed := true }
def FsFullUptoSaid : Prop := fsFullUptoRow.holds Tryd.pinned (OpenSpec.upto fsFullSpec)

/-- 'mewslaw1.FsReplaces', WHERE WHAT IT READS IS OF BULK AT MOST 1048576: true; the input reads as it did. -/
def fsReplacesUptoRow : OpenClaim := { program := "ytaolddgnannojaadoor", sum := "0b68c7238023559cff9ff77a28ec22f1b4a50915d06cc6183470312d518c8742", func := "mews/mewslaw1.FsReplaces", spec := "fsReplaces", inPlace := ["internal/bytealg.CountString", "internal/bytealg.IndexByteString", "internal/bytealg.IndexString", "maps.clone"], unfollowed := true, recurses := true, named := ["unicode/utf8.first", "unicode/utf8.acceptRanges", "internal/bytealg.MaxLen"], apart := false, laid := [("unicode/utf8.acceptRanges", laid_unicode_utf8_acceptRanges), ("unicode/utf8.first", laid_unicode_utf8_first)], narrowed := true }
def FsReplacesUptoSaid : Prop := fsReplacesUptoRow.holds Tryd.pinned (OpenSpec.upto fsReplacesSpec)

/-- 'mewslaw1.FsRefused', WHERE WHAT IT READS IS OF BULK AT MOST 1048576: true; the input reads as it did. -/
def fsRefusedUptoRow : OpenClaim := { program := "ytaolddgnannojaadoor", sum := "0b68c7238023559cff9ff77a28ec22f1b4a50915d06cc6183470312d518c8742", func := "mews/mewslaw1.FsRefused", spec := "fsRefused", inPlace := ["internal/bytealg.CountString", "internal/bytealg.IndexByteString", "internal/bytealg.IndexString", "maps.clone"], unfollowed := true, recurses := true, named := ["unicode/utf8.first", "unicode/utf8.acceptRanges", "internal/bytealg.MaxLen"], apart := false, laid := [("unicode/utf8.acceptRanges", laid_unicode_utf8_acceptRanges), ("unicode/utf8.first", laid_unicode_utf8_first)], narrowed := true }
def FsRefusedUptoSaid : Prop := fsRefusedUptoRow.holds Tryd.pinned (OpenSpec.upto fsRefusedSpec)

/-- 'mewslaw1.FsArmed', WHERE WHAT IT READS IS OF BULK AT MOST 1048576: true; the input reads as it did. -/
def fsArmedUptoRow : OpenClaim := { program := "ytaolddgnannojaadoor", sum := "0b68c7238023559cff9ff77a28ec22f1b4a50915d06cc6183470312d518c8742", func := "mews/mewslaw1.FsArmed", spec := "fsArmed", inPlace := ["internal/bytealg.CountString", "internal/bytealg.IndexByteString", "internal/bytealg.IndexString", "maps.clone"], unfollowed := true, recurses := true, named := ["unicode/utf8.first", "unicode/utf8.acceptRanges", "internal/bytealg.MaxLen"], apart := false, laid := [("unicode/utf8.acceptRanges", laid_unicode_utf8_acceptRanges), ("unicode/utf8.first", laid_unicode_utf8_first)], narrowed := true }
def FsArmedUptoSaid : Prop := fsArmedUptoRow.holds Tryd.pinned (OpenSpec.upto fsArmedSpec)

/-- 'mewslaw1.FsKept', WHERE WHAT IT READS IS OF BULK AT MOST 1048576: true; the input reads as it did. -/
def fsKeptUptoRow : OpenClaim := { program := "ytaolddgnannojaadoor", sum := "0b68c7238023559cff9ff77a28ec22f1b4a50915d06cc6183470312d518c8742", func := "mews/mewslaw1.FsKept", spec := "fsKept", inPlace := ["internal/bytealg.CountString", "internal/bytealg.IndexByteString", "internal/bytealg.IndexString", "maps.clone"], unfollowed := true, recurses := true, named := ["unicode/utf8.first", "unicode/utf8.acceptRanges", "internal/bytealg.MaxLen"], apart := false, laid := [("unicode/utf8.acceptRanges", laid_unicode_utf8_acceptRanges), ("unicode/utf8.first", laid_unicode_utf8_first)], narrowed := true }
def FsKeptUptoSaid : Prop := fsKeptUptoRow.holds Tryd.pinned (OpenSpec.upto fsKeptSpec)

/-- 'mewslaw1.FsApart', WHERE WHAT IT READS IS OF BULK AT MOST 1048576: true; the input reads as it did. -/
def fsApartUptoRow : OpenClaim := { program := "ytaolddgnannojaadoor", sum := "0b68c7238023559cff9ff77a28ec22f1b4a50915d06cc6183470312d518c8742", func := "mews/mewslaw1.FsApart", spec := "fsApart", inPlace := ["internal/bytealg.CountString", "internal/bytealg.IndexByteString", "internal/bytealg.IndexString", "maps.clone"], unfollowed := true, recurses := true, named := ["unicode/utf8.first", "unicode/utf8.acceptRanges", "internal/bytealg.MaxLen"], apart := false, laid := [("unicode/utf8.acceptRanges", laid_unicode_utf8_acceptRanges), ("unicode/utf8.first", laid_unicode_utf8_first)], narrowed := true }
def FsApartUptoSaid : Prop := fsApartUptoRow.holds Tryd.pinned (OpenSpec.upto fsApartSpec)

end Rows
end Go.Proofs.YtaolddgnannojaaDoor
