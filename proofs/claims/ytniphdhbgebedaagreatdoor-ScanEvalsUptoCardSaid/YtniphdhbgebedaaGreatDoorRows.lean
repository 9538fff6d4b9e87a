/-
  NARROWER THAN 'FOR EVERY INPUT', by the rows' own cells (each row's printed sentence says how): ScanFront: laid · ScanEvals: laid · ScanTruth: laid · ScanNearest: laid · ScanNames: laid · ScanMerged: laid · ScanTags: laid.
  DERIVED. THE GIVEN ROWS OF THIS SEAT. 7 by the template 'for every input the law returns true; each argument reads behind the call as it read before'; 0 by the template 'total and deterministic' (their statements: YtniphdhbgebedaaGreatDoorTotals.lean).
  GIVEN WITH THE SEED: the statements are not yours to turn. If you find one false, say at which input.
  Laid BY PROGRAM, IN A SANDBOX (cutbox-rows.mjs): the forced cells as the released guide's own fill.sh prints them over the translation 0a4c1a2b8b0a9b9d… (all of the seat's roots in one cut). By AI agents, Wed Nov 11 2026. No macro, syntax, notation, axiom, sorry.
-/
import Derived.Test.YtniphdhbgebedaaGreatDoorChecked
import GoSem.PinnedTables
import GoSem.Claim
import GoSem.ClaimJoined
import GoSem.ClaimMapViews
import Derived.JoinedTies
import Derived.KernelRfl
namespace Go.Proofs.YtniphdhbgebedaaGreatDoor
/- THE CELL 'sum', in the pinned program and in every row, IS THE sha256 OF THE DUMP (.gsa) THAT YtniphdhbgebedaaGreatDoorProg.lean LOADS. Nothing in Lean hashes anything: it is a label: what it is worth is what the hold of that sum in a sandbox is worth. -/
noncomputable def Tryz.pinned : Pinned := { name := "ytniphdhbgebedaagreatdoor", sum := "0a4c1a2b8b0a9b9d5c13f13b92be32de597f54f98fd729b04f3350ba72767fb1", checked := Tryz.checked }
namespace Rows
def none {H : Type} : Left H := { results := [], args := [] }

/- WHAT THE LISTED PACKAGE-LEVEL VARIABLES READ AS WHEN THE CALL BEGINS. Each datum BY PROGRAM (the guide's laid-datum.mjs) off the statement by which the dump's own 'gosem.cut.vars' lays the variable. In a bare row this is a premise. The card (YtniphdhbgebedaaGreatDoorCards.lean) ties it to the program's text. -/
def laid_unicode_utf8_acceptRanges {H : Type} : DataW H := .agg [.agg [.lit (.int .u8 128), .lit (.int .u8 191)], .agg [.lit (.int .u8 160), .lit (.int .u8 191)], .agg [.lit (.int .u8 128), .lit (.int .u8 159)], .agg [.lit (.int .u8 144), .lit (.int .u8 191)], .agg [.lit (.int .u8 128), .lit (.int .u8 143)], .agg [.lit (.int .u8 0), .lit (.int .u8 0)], .agg [.lit (.int .u8 0), .lit (.int .u8 0)], .agg [.lit (.int .u8 0), .lit (.int .u8 0)], .agg [.lit (.int .u8 0), .lit (.int .u8 0)], .agg [.lit (.int .u8 0), .lit (.int .u8 0)], .agg [.lit (.int .u8 0), .lit (.int .u8 0)], .agg [.lit (.int .u8 0), .lit (.int .u8 0)], .agg [.lit (.int .u8 0), .lit (.int .u8 0)], .agg [.lit (.int .u8 0), .lit (.int .u8 0)], .agg [.lit (.int .u8 0), .lit (.int .u8 0)], .agg [.lit (.int .u8 0), .lit (.int .u8 0)]]
/-- One of Go's own tables, pinned by name: the form's constant. -/
def laid_unicode_utf8_first : DataW Unit := Go.Pinned.utf8First

/-- 'mewslaw14.ScanFront': WHATEVER THE INPUT: true; the input reads as it did. -/
def scanFrontSpec : ChangeSpec := { name := "scanFront", fn := fun _ => fun
  | [d1, d2, d3, d4, d5] => { results := [.lit (.bool true)], args := [d1, d2, d3, d4, d5] }
  | _ => none }
def scanFrontRow : OpenClaim := { program := "ytniphdhbgebedaagreatdoor", sum := "0a4c1a2b8b0a9b9d5c13f13b92be32de597f54f98fd729b04f3350ba72767fb1", func := "mews/mewslaw14.ScanFront", spec := "scanFront", inPlace := ["internal/bytealg.IndexByteString", "internal/bytealg.CountString", "internal/bytealg.IndexString"], unfollowed := true, recurses := true, named := ["unicode/utf8.first", "unicode/utf8.acceptRanges", "internal/bytealg.MaxLen"], apart := false, laid := [("unicode/utf8.acceptRanges", laid_unicode_utf8_acceptRanges), ("unicode/utf8.first", laid_unicode_utf8_first)] }
def ScanFrontSaid : Prop := scanFrontRow.holds Tryz.pinned (OpenSpec.ofChange scanFrontSpec)

/-- ITS FALSE NEIGHBOUR: 'it returns false'. Refute it at one input. -/
def scanFrontWrong : ChangeSpec := { name := "scanFront", fn := fun _ => fun
  | [d1, d2, d3, d4, d5] => { results := [.lit (.bool false)], args := [d1, d2, d3, d4, d5] }
  | _ => none }
def ScanFrontWrongFalsely : Prop := scanFrontRow.holds Tryz.pinned (OpenSpec.ofChange scanFrontWrong)

/-- 'mewslaw14.ScanEvals': WHATEVER THE INPUT: true; the input reads as it did. -/
def scanEvalsSpec : ChangeSpec := { name := "scanEvals", fn := fun _ => fun
  | [d1, d2] => { results := [.lit (.bool true)], args := [d1, d2] }
  | _ => none }
def scanEvalsRow : OpenClaim := { program := "ytniphdhbgebedaagreatdoor", sum := "0a4c1a2b8b0a9b9d5c13f13b92be32de597f54f98fd729b04f3350ba72767fb1", func := "mews/mewslaw14.ScanEvals", spec := "scanEvals", inPlace := ["internal/bytealg.IndexByteString", "internal/bytealg.CountString", "internal/bytealg.IndexString"], unfollowed := true, recurses := true, named := ["unicode/utf8.first", "unicode/utf8.acceptRanges", "internal/bytealg.MaxLen"], apart := false, laid := [("unicode/utf8.acceptRanges", laid_unicode_utf8_acceptRanges), ("unicode/utf8.first", laid_unicode_utf8_first)] }
def ScanEvalsSaid : Prop := scanEvalsRow.holds Tryz.pinned (OpenSpec.ofChange scanEvalsSpec)

/-- ITS FALSE NEIGHBOUR: 'it returns false'. Refute it at one input. -/
def scanEvalsWrong : ChangeSpec := { name := "scanEvals", fn := fun _ => fun
  | [d1, d2] => { results := [.lit (.bool false)], args := [d1, d2] }
  | _ => none }
def ScanEvalsWrongFalsely : Prop := scanEvalsRow.holds Tryz.pinned (OpenSpec.ofChange scanEvalsWrong)

/-- 'mewslaw14.ScanTruth': WHATEVER THE INPUT: true; the input reads as it did. -/
def scanTruthSpec : ChangeSpec := { name := "scanTruth", fn := fun _ => fun
  | [d1, d2, d3, d4, d5] => { results := [.lit (.bool true)], args := [d1, d2, d3, d4, d5] }
  | _ => none }
def scanTruthRow : OpenClaim := { program := "ytniphdhbgebedaagreatdoor", sum := "0a4c1a2b8b0a9b9d5c13f13b92be32de597f54f98fd729b04f3350ba72767fb1", func := "mews/mewslaw14.ScanTruth", spec := "scanTruth", inPlace := ["internal/bytealg.IndexByteString", "internal/bytealg.CountString", "internal/bytealg.IndexString"], unfollowed := true, recurses := true, named := ["unicode/utf8.first", "unicode/utf8.acceptRanges", "internal/bytealg.MaxLen"], apart := false, laid := [("unicode/utf8.acceptRanges", laid_unicode_utf8_acceptRanges), ("unicode/utf8.first", laid_unicode_utf8_first)] }
def ScanTruthSaid : Prop := scanTruthRow.holds Tryz.pinned (OpenSpec.ofChange scanTruthSpec)

/-- ITS FALSE NEIGHBOUR: 'it returns false'. Refute it at one input. -/
def scanTruthWrong : ChangeSpec := { name := "scanTruth", fn := fun _ => fun
  | [d1, d2, d3, d4, d5] => { results := [.lit (.bool false)], args := [d1, d2, d3, d4, d5] }
  | _ => none }
def ScanTruthWrongFalsely : Prop := scanTruthRow.holds Tryz.pinned (OpenSpec.ofChange scanTruthWrong)

/-- 'mewslaw14.ScanNearest': WHATEVER THE INPUT: true; the input reads as it did. -/
def scanNearestSpec : ChangeSpec := { name := "scanNearest", fn := fun _ => fun
  | [d1, d2, d3] => { results := [.lit (.bool true)], args := [d1, d2, d3] }
  | _ => none }
def scanNearestRow : OpenClaim := { program := "ytniphdhbgebedaagreatdoor", sum := "0a4c1a2b8b0a9b9d5c13f13b92be32de597f54f98fd729b04f3350ba72767fb1", func := "mews/mewslaw14.ScanNearest", spec := "scanNearest", inPlace := ["internal/bytealg.IndexByteString", "internal/bytealg.CountString", "internal/bytealg.IndexString"], unfollowed := true, recurses := true, named := ["unicode/utf8.first", "unicode/utf8.acceptRanges", "internal/bytealg.MaxLen"], apart := false, laid := [("unicode/utf8.acceptRanges", laid_unicode_utf8_acceptRanges), ("unicode/utf8.first", laid_unicode_utf8_first)] }
def ScanNearestSaid : Prop := scanNearestRow.holds Tryz.pinned (OpenSpec.ofChange scanNearestSpec)

/-- ITS FALSE NEIGHBOUR: 'it returns false'. Refute it at one input. -/
def scanNearestWrong : ChangeSpec := { name := "scanNearest", fn := fun _ => fun
  | [d1, d2, d3] => { results := [.lit (.bool false)], args := [d1, d2, d3] }
  | _ => none }
def ScanNearestWrongFalsely : Prop := scanNearestRow.holds Tryz.pinned (OpenSpec.ofChange scanNearestWrong)

/-- 'mewslaw14.ScanNames': WHATEVER THE INPUT: true; the input reads as it did. -/
def scanNamesSpec : ChangeSpec := { name := "scanNames", fn := fun _ => fun
  | [d1, d2, d3, d4] => { results := [.lit (.bool true)], args := [d1, d2, d3, d4] }
  | _ => none }
def scanNamesRow : OpenClaim := { program := "ytniphdhbgebedaagreatdoor", sum := "0a4c1a2b8b0a9b9d5c13f13b92be32de597f54f98fd729b04f3350ba72767fb1", func := "mews/mewslaw14.ScanNames", spec := "scanNames", inPlace := ["internal/bytealg.IndexByteString", "internal/bytealg.CountString", "internal/bytealg.IndexString"], unfollowed := true, recurses := true, named := ["unicode/utf8.first", "unicode/utf8.acceptRanges", "internal/bytealg.MaxLen"], apart := false, laid := [("unicode/utf8.acceptRanges", laid_unicode_utf8_acceptRanges), ("unicode/utf8.first", laid_unicode_utf8_first)] }
def ScanNamesSaid : Prop := scanNamesRow.holds Tryz.pinned (OpenSpec.ofChange scanNamesSpec)

/-- ITS FALSE NEIGHBOUR: 'it returns false'. Refute it at one input. -/
def scanNamesWrong : ChangeSpec := { name := "scanNames", fn := fun _ => fun
  | [d1, d2, d3, d4] => { results := [.lit (.bool false)], args := [d1, d2, d3, d4] }
  | _ => none }
def ScanNamesWrongFalsely : Prop := scanNamesRow.holds Tryz.pinned (OpenSpec.ofChange scanNamesWrong)

/-- 'mewslaw14.ScanMerged': WHATEVER THE INPUT: true; the input reads as it did. -/
def scanMergedSpec : ChangeSpec := { name := "scanMerged", fn := fun _ => fun
  | [d1, d2, d3] => { results := [.lit (.bool true)], args := [d1, d2, d3] }
  | _ => none }
def scanMergedRow : OpenClaim := { program := "ytniphdhbgebedaagreatdoor", sum := "0a4c1a2b8b0a9b9d5c13f13b92be32de597f54f98fd729b04f3350ba72767fb1", func := "mews/mewslaw14.ScanMerged", spec := "scanMerged", inPlace := ["internal/bytealg.IndexByteString", "internal/bytealg.CountString", "internal/bytealg.IndexString", "internal/bytealg.abigen_runtime_cmpstring"], unfollowed := true, recurses := true, named := ["unicode/utf8.first", "unicode/utf8.acceptRanges", "internal/bytealg.MaxLen"], apart := false, laid := [("unicode/utf8.acceptRanges", laid_unicode_utf8_acceptRanges), ("unicode/utf8.first", laid_unicode_utf8_first)] }
def ScanMergedSaid : Prop := scanMergedRow.holds Tryz.pinned (OpenSpec.ofChange scanMergedSpec)

/-- ITS FALSE NEIGHBOUR: 'it returns false'. Refute it at one input. -/
def scanMergedWrong : ChangeSpec := { name := "scanMerged", fn := fun _ => fun
  | [d1, d2, d3] => { results := [.lit (.bool false)], args := [d1, d2, d3] }
  | _ => none }
def ScanMergedWrongFalsely : Prop := scanMergedRow.holds Tryz.pinned (OpenSpec.ofChange scanMergedWrong)

/-- 'mewslaw14.ScanTags': WHATEVER THE INPUT: true; the input reads as it did. -/
def scanTagsSpec : ChangeSpec := { name := "scanTags", fn := fun _ => fun
  | [d1, d2, d3, d4] => { results := [.lit (.bool true)], args := [d1, d2, d3, d4] }
  | _ => none }
def scanTagsRow : OpenClaim := { program := "ytniphdhbgebedaagreatdoor", sum := "0a4c1a2b8b0a9b9d5c13f13b92be32de597f54f98fd729b04f3350ba72767fb1", func := "mews/mewslaw14.ScanTags", spec := "scanTags", inPlace := ["internal/bytealg.IndexByteString", "internal/bytealg.CountString", "internal/bytealg.IndexString", "internal/bytealg.abigen_runtime_cmpstring"], unfollowed := true, recurses := true, named := ["unicode/utf8.first", "unicode/utf8.acceptRanges", "internal/bytealg.MaxLen"], apart := false, laid := [("unicode/utf8.acceptRanges", laid_unicode_utf8_acceptRanges), ("unicode/utf8.first", laid_unicode_utf8_first)] }
def ScanTagsSaid : Prop := scanTagsRow.holds Tryz.pinned (OpenSpec.ofChange scanTagsSpec)

/-- ITS FALSE NEIGHBOUR: 'it returns false'. Refute it at one input. -/
def scanTagsWrong : ChangeSpec := { name := "scanTags", fn := fun _ => fun
  | [d1, d2, d3, d4] => { results := [.lit (.bool false)], args := [d1, d2, d3, d4] }
  | _ => none }
def ScanTagsWrongFalsely : Prop := scanTagsRow.holds Tryz.pinned (OpenSpec.ofChange scanTagsWrong)

/- THE SECOND FORM. 'bulk': how many values and letters a reading holds, each counted each time it is reached (what is shared counts as often as it is met; a slice's spare places count too). A statement '..UptoSaid' is the law's where the arguments, and the package variables that the reading takes, are together of bulk at most 1048576: NARROWER than '..Said'. Prove '..Said' where nothing that the law and all that it calls make is longer than what came in: it says more and counts as full. Else prove '..UptoSaid'. A law counts once. -/
mutual
def uptoBulk {H : Type} : DataW H → Nat
  | .lit (.string bytes) => bytes.length + 1
  | .lit _ => 1
  | .nil => 1
  | .ptr d => uptoBulk d + 1
  | .slice elems spare => uptoBulkAll elems + uptoBulkAll spare + 1
  | .agg parts => uptoBulkAll parts + 1
  | .iface _ d => uptoBulk d + 1
  | .map entries => uptoBulkEntries entries + 1
  | .held _ => 1
def uptoBulkAll {H : Type} : List (DataW H) → Nat
  | [] => 0
  | d :: r => uptoBulk d + uptoBulkAll r
def uptoBulkEntries {H : Type} : List (Lit × DataW H) → Nat
  | [] => 0
  | x :: r => uptoBulkEntry x + uptoBulkEntries r
def uptoBulkEntry {H : Type} : Lit × DataW H → Nat
  | (.string bytes, d) => bytes.length + uptoBulk d + 1
  | (_, d) => uptoBulk d + 1
 end
def uptoSmall : (H : Type) → List (DataW H) → Bool := fun _ ds => decide (uptoBulkAll ds ≤ 1048576)
def OpenSpec.upto (s : _root_.Go.ChangeSpec) : _root_.Go.OpenSpec := { _root_.Go.OpenSpec.ofChange s with cond := some uptoSmall }

/-- 'mewslaw14.ScanFront', WHERE WHAT IT READS IS OF BULK AT MOST 1048576: true; the input reads as it did. -/
def scanFrontUptoRow : OpenClaim := { program := "ytniphdhbgebedaagreatdoor", sum := "0a4c1a2b8b0a9b9d5c13f13b92be32de597f54f98fd729b04f3350ba72767fb1", func := "mews/mewslaw14.ScanFront", spec := "scanFront", inPlace := ["internal/bytealg.IndexByteString", "internal/bytealg.CountString", "internal/bytealg.IndexString"], unfollowed := true, recurses := true, named := ["unicode/utf8.first", "unicode/utf8.acceptRanges", "internal/bytealg.MaxLen"], apart := false, laid := [("unicode/utf8.acceptRanges", laid_unicode_utf8_acceptRanges), ("unicode/utf8.first", laid_unicode_utf8_first)], narrowed := true }
def ScanFrontUptoSaid : Prop := scanFrontUptoRow.holds Tryz.pinned (OpenSpec.upto scanFrontSpec)

/-- 'mewslaw14.ScanEvals', WHERE WHAT IT READS IS OF BULK AT MOST 1048576: true; the input reads as it did. -/
def scanEvalsUptoRow : OpenClaim := { program := "ytniphdhbgebedaagreatdoor", sum := "0a4c1a2b8b0a9b9d5c13f13b92be32de597f54f98fd729b04f3350ba72767fb1", func := "mews/mewslaw14.ScanEvals", spec := "scanEvals", inPlace := ["internal/bytealg.IndexByteString", "internal/bytealg.CountString", "internal/bytealg.IndexString"], unfollowed := true, recurses := true, named := ["unicode/utf8.first", "unicode/utf8.acceptRanges", "internal/bytealg.MaxLen"], apart := false, laid := [("unicode/utf8.acceptRanges", laid_unicode_utf8_acceptRanges), ("unicode/utf8.first", laid_unicode_utf8_first)], narrowed := true }
def ScanEvalsUptoSaid : Prop := scanEvalsUptoRow.holds Tryz.pinned (OpenSpec.upto scanEvalsSpec)

/-- 'mewslaw14.ScanTruth', WHERE WHAT IT READS IS OF BULK AT MOST 1048576: true; the input reads as it did. -/
def scanTruthUptoRow : OpenClaim := { program := "ytniphdhbgebedaagreatdoor", sum := "0a4c1a2b8b0a9b9d5c13f13b92be32de597f54f98fd729b04f3350ba72767fb1", func := "mews/mewslaw14.ScanTruth", spec := "scanTruth", inPlace := ["internal/bytealg.IndexByteString", "internal/bytealg.CountString", "internal/bytealg.IndexString"], unfollowed := true, recurses := true, named := ["unicode/utf8.first", "unicode/utf8.acceptRanges", "internal/bytealg.MaxLen"], apart := false, laid := [("unicode/utf8.acceptRanges", laid_unicode_utf8_acceptRanges), ("unicode/utf8.first", laid_unicode_utf8_first)], narrowed := true }
def ScanTruthUptoSaid : Prop := scanTruthUptoRow.holds Tryz.pinned (OpenSpec.upto scanTruthSpec)

/-- 'mewslaw14.ScanNearest', WHERE WHAT IT READS IS OF BULK AT MOST 1048576: true; the input reads as it did. -/
def scanNearestUptoRow : OpenClaim := { program := "ytniphdhbgebedaagreatdoor", sum := "0a4c1a2b8b0a9b9d5c13f13b92be32de597f54f98fd729b04f3350ba72767fb1", func := "mews/mewslaw14.ScanNearest", spec := "scanNearest", inPlace := ["internal/bytealg.IndexByteString", "internal/bytealg.CountString", "internal/bytealg.IndexString"], unfollowed := true, recurses := true, named := ["unicode/utf8.first", "unicode/utf8.acceptRanges", "internal/bytealg.MaxLen"], apart := false, laid := [("unicode/utf8.acceptRanges", laid_unicode_utf8_acceptRanges), ("unicode/utf8.first", laid_unicode_utf8_first)], narrowed := true }
def ScanNearestUptoSaid : Prop := scanNearestUptoRow.holds Tryz.pinned (OpenSpec.upto scanNearestSpec)

/-- 'mewslaw14.ScanNames', WHERE WHAT IT READS IS OF BULK AT MOST 1048576: true; the input reads as it did. -/
def scanNamesUptoRow : OpenClaim := { program := "ytniphdhbgebedaagreatdoor", sum := "0a4c1a2b8b0a9b9d5c13f13b92be32de597f54f98fd729b04f3350ba72767fb1", func := "mews/mewslaw14.ScanNames", spec := "scanNames", inPlace := ["internal/bytealg.IndexByteString", "internal/bytealg.CountString", "internal/bytealg.IndexString"], unfollowed := true, recurses := true, named := ["unicode/utf8.first", "unicode/utf8.acceptRanges", "internal/bytealg.MaxLen"], apart := false, laid := [("unicode/utf8.acceptRanges", laid_unicode_utf8_acceptRanges), ("unicode/utf8.first", laid_unicode_utf8_first)], narrowed := true }
def ScanNamesUptoSaid : Prop := scanNamesUptoRow.holds Tryz.pinned (OpenSpec.upto scanNamesSpec)

/-- 'mewslaw14.ScanMerged', WHERE WHAT IT READS IS OF BULK AT MOST 1048576: true; the input reads as it did. -/
def scanMergedUptoRow : OpenClaim := { program := "ytniphdhbgebedaagreatdoor", sum := "0a4c1a2b8b0a9b9d5c13f13b92be32de597f54f98fd729b04f3350ba72767fb1", func := "mews/mewslaw14.ScanMerged", spec := "scanMerged", inPlace := ["internal/bytealg.IndexByteString", "internal/bytealg.CountString", "internal/bytealg.IndexString", "internal/bytealg.abigen_runtime_cmpstring"], unfollowed := true, recurses := true, named := ["unicode/utf8.first", "unicode/utf8.acceptRanges", "internal/bytealg.MaxLen"], apart := false, laid := [("unicode/utf8.acceptRanges", laid_unicode_utf8_acceptRanges), ("unicode/utf8.first", laid_unicode_utf8_first)], narrowed := true }
def ScanMergedUptoSaid : Prop := scanMergedUptoRow.holds Tryz.pinned (OpenSpec.upto scanMergedSpec)

/-- 'mewslaw14.ScanTags', WHERE WHAT IT READS IS OF BULK AT MOST 1048576: true; the input reads as it did. -/
def scanTagsUptoRow : OpenClaim := { program := "ytniphdhbgebedaagreatdoor", sum := "0a4c1a2b8b0a9b9d5c13f13b92be32de597f54f98fd729b04f3350ba72767fb1", func := "mews/mewslaw14.ScanTags", spec := "scanTags", inPlace := ["internal/bytealg.IndexByteString", "internal/bytealg.CountString", "internal/bytealg.IndexString", "internal/bytealg.abigen_runtime_cmpstring"], unfollowed := true, recurses := true, named := ["unicode/utf8.first", "unicode/utf8.acceptRanges", "internal/bytealg.MaxLen"], apart := false, laid := [("unicode/utf8.acceptRanges", laid_unicode_utf8_acceptRanges), ("unicode/utf8.first", laid_unicode_utf8_first)], narrowed := true }
def ScanTagsUptoSaid : Prop := scanTagsUptoRow.holds Tryz.pinned (OpenSpec.upto scanTagsSpec)

end Rows
end Go.Proofs.YtniphdhbgebedaaGreatDoor
