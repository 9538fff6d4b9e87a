/-
  NARROWER THAN 'FOR EVERY INPUT', by the rows' own cells (each row's printed sentence says how): ArkPacks: laid · ArkTells: laid · ArkUnpacks: laid · ArkLong: laid · ArkOneForm: laid · ArkSums: laid · ArkBack: laid.
  DERIVED. THE GIVEN ROWS OF THIS SEAT. 7 by the template 'for every input the law returns true; each argument reads behind the call as it read before'; 0 by the template 'total and deterministic' (their statements: YtdmladdpbdcpjaaDoorTotals.lean).
  GIVEN WITH THE SEED: the statements are not yours to turn. If you find one false, say at which input.
  Laid BY PROGRAM, IN A SANDBOX (cutbox-rows.mjs): the forced cells as the released guide's own fill.sh prints them over the translation 089f28ec5e0a14b3… (all of the seat's roots in one cut). By AI agents, Wed Nov 11 2026. No macro, syntax, notation, axiom, sorry.
-/
import Derived.Test.YtdmladdpbdcpjaaDoorChecked
import GoSem.PinnedTables
import GoSem.Claim
import GoSem.ClaimJoined
import GoSem.ClaimMapViews
import Derived.JoinedTies
import Derived.KernelRfl
namespace Go.Proofs.YtdmladdpbdcpjaaDoor
/- THE CELL 'sum', in the pinned program and in every row, IS THE sha256 OF THE DUMP (.gsa) THAT YtdmladdpbdcpjaaDoorProg.lean LOADS. Nothing in Lean hashes anything: it is a label: what it is worth is what the hold of that sum in a sandbox is worth. -/
noncomputable def Tryd.pinned : Pinned := { name := "ytdmladdpbdcpjaadoor", sum := "089f28ec5e0a14b3ca6f195bedd2dde59dfc80a2bd5e077e308a1939623f3c02", checked := Tryd.checked }
namespace Rows
def none {H : Type} : Left H := { results := [], args := [] }

/- WHAT THE LISTED PACKAGE-LEVEL VARIABLES READ AS WHEN THE CALL BEGINS. Each datum BY PROGRAM (the guide's laid-datum.mjs) off the statement by which the dump's own 'gosem.cut.vars' lays the variable. In a bare row this is a premise. The card (YtdmladdpbdcpjaaDoorCards.lean) ties it to the program's text. -/
def laid_unicode_utf8_acceptRanges {H : Type} : DataW H := .agg [.agg [.lit (.int .u8 128), .lit (.int .u8 191)], .agg [.lit (.int .u8 160), .lit (.int .u8 191)], .agg [.lit (.int .u8 128), .lit (.int .u8 159)], .agg [.lit (.int .u8 144), .lit (.int .u8 191)], .agg [.lit (.int .u8 128), .lit (.int .u8 143)], .agg [.lit (.int .u8 0), .lit (.int .u8 0)], .agg [.lit (.int .u8 0), .lit (.int .u8 0)], .agg [.lit (.int .u8 0), .lit (.int .u8 0)], .agg [.lit (.int .u8 0), .lit (.int .u8 0)], .agg [.lit (.int .u8 0), .lit (.int .u8 0)], .agg [.lit (.int .u8 0), .lit (.int .u8 0)], .agg [.lit (.int .u8 0), .lit (.int .u8 0)], .agg [.lit (.int .u8 0), .lit (.int .u8 0)], .agg [.lit (.int .u8 0), .lit (.int .u8 0)], .agg [.lit (.int .u8 0), .lit (.int .u8 0)], .agg [.lit (.int .u8 0), .lit (.int .u8 0)]]
/-- One of Go's own tables, pinned by name: the form's constant. -/
def laid_unicode_utf8_first : DataW Unit := Go.Pinned.utf8First

/-- 'mewslaw6.ArkPacks': WHATEVER THE INPUT: true; the input reads as it did. -/
def arkPacksSpec : ChangeSpec := { name := "arkPacks", fn := fun _ => fun
  | [d1, d2, d3] => { results := [.lit (.bool true)], args := [d1, d2, d3] }
  | _ => none }
def arkPacksRow : OpenClaim := { program := "ytdmladdpbdcpjaadoor", sum := "089f28ec5e0a14b3ca6f195bedd2dde59dfc80a2bd5e077e308a1939623f3c02", func := "mews/mewslaw6.ArkPacks", spec := "arkPacks", inPlace := ["internal/bytealg.CountString", "internal/bytealg.IndexByteString", "internal/bytealg.IndexString", "internal/bytealg.abigen_runtime_cmpstring", "internal/abi.NoEscape"], unfollowed := true, recurses := true, named := ["unicode/utf8.first", "unicode/utf8.acceptRanges", "internal/bytealg.MaxLen"], apart := false, laid := [("unicode/utf8.acceptRanges", laid_unicode_utf8_acceptRanges), ("unicode/utf8.first", laid_unicode_utf8_first)] }
def ArkPacksSaid : Prop := arkPacksRow.holds Tryd.pinned (OpenSpec.ofChange arkPacksSpec)

/-- ITS FALSE NEIGHBOUR: 'it returns false'. Refute it at one input. -/
def arkPacksWrong : ChangeSpec := { name := "arkPacks", fn := fun _ => fun
  | [d1, d2, d3] => { results := [.lit (.bool false)], args := [d1, d2, d3] }
  | _ => none }
def ArkPacksWrongFalsely : Prop := arkPacksRow.holds Tryd.pinned (OpenSpec.ofChange arkPacksWrong)

/-- 'mewslaw6.ArkTells': WHATEVER THE INPUT: true; the input reads as it did. -/
def arkTellsSpec : ChangeSpec := { name := "arkTells", fn := fun _ => fun
  | [d1, d2, d3] => { results := [.lit (.bool true)], args := [d1, d2, d3] }
  | _ => none }
def arkTellsRow : OpenClaim := { program := "ytdmladdpbdcpjaadoor", sum := "089f28ec5e0a14b3ca6f195bedd2dde59dfc80a2bd5e077e308a1939623f3c02", func := "mews/mewslaw6.ArkTells", spec := "arkTells", inPlace := ["internal/bytealg.CountString", "internal/bytealg.IndexByteString", "internal/bytealg.IndexString", "internal/bytealg.abigen_runtime_cmpstring", "internal/abi.NoEscape"], unfollowed := true, recurses := true, named := ["unicode/utf8.first", "unicode/utf8.acceptRanges", "internal/bytealg.MaxLen"], apart := false, laid := [("unicode/utf8.acceptRanges", laid_unicode_utf8_acceptRanges), ("unicode/utf8.first", laid_unicode_utf8_first)] }
def ArkTellsSaid : Prop := arkTellsRow.holds Tryd.pinned (OpenSpec.ofChange arkTellsSpec)

/-- ITS FALSE NEIGHBOUR: 'it returns false'. Refute it at one input. -/
def arkTellsWrong : ChangeSpec := { name := "arkTells", fn := fun _ => fun
  | [d1, d2, d3] => { results := [.lit (.bool false)], args := [d1, d2, d3] }
  | _ => none }
def ArkTellsWrongFalsely : Prop := arkTellsRow.holds Tryd.pinned (OpenSpec.ofChange arkTellsWrong)

/-- 'mewslaw6.ArkUnpacks': WHATEVER THE INPUT: true; the input reads as it did. -/
def arkUnpacksSpec : ChangeSpec := { name := "arkUnpacks", fn := fun _ => fun
  | [d] => { results := [.lit (.bool true)], args := [d] }
  | _ => none }
def arkUnpacksRow : OpenClaim := { program := "ytdmladdpbdcpjaadoor", sum := "089f28ec5e0a14b3ca6f195bedd2dde59dfc80a2bd5e077e308a1939623f3c02", func := "mews/mewslaw6.ArkUnpacks", spec := "arkUnpacks", inPlace := ["internal/bytealg.CountString", "internal/bytealg.IndexByteString", "internal/bytealg.IndexString", "internal/bytealg.abigen_runtime_cmpstring", "internal/abi.NoEscape"], unfollowed := true, recurses := true, named := ["unicode/utf8.first", "unicode/utf8.acceptRanges", "internal/bytealg.MaxLen"], apart := false, laid := [("unicode/utf8.acceptRanges", laid_unicode_utf8_acceptRanges), ("unicode/utf8.first", laid_unicode_utf8_first)] }
def ArkUnpacksSaid : Prop := arkUnpacksRow.holds Tryd.pinned (OpenSpec.ofChange arkUnpacksSpec)

/-- ITS FALSE NEIGHBOUR: 'it returns false'. Refute it at one input. -/
def arkUnpacksWrong : ChangeSpec := { name := "arkUnpacks", fn := fun _ => fun
  | [d] => { results := [.lit (.bool false)], args := [d] }
  | _ => none }
def ArkUnpacksWrongFalsely : Prop := arkUnpacksRow.holds Tryd.pinned (OpenSpec.ofChange arkUnpacksWrong)

/-- 'mewslaw6.ArkLong': WHATEVER THE INPUT: true; the input reads as it did. -/
def arkLongSpec : ChangeSpec := { name := "arkLong", fn := fun _ => fun
  | [d1, d2] => { results := [.lit (.bool true)], args := [d1, d2] }
  | _ => none }
def arkLongRow : OpenClaim := { program := "ytdmladdpbdcpjaadoor", sum := "089f28ec5e0a14b3ca6f195bedd2dde59dfc80a2bd5e077e308a1939623f3c02", func := "mews/mewslaw6.ArkLong", spec := "arkLong", inPlace := ["internal/bytealg.CountString", "internal/bytealg.IndexByteString", "internal/bytealg.IndexString", "internal/bytealg.abigen_runtime_cmpstring", "internal/abi.NoEscape"], unfollowed := true, recurses := true, named := ["unicode/utf8.first", "unicode/utf8.acceptRanges", "internal/bytealg.MaxLen"], apart := false, laid := [("unicode/utf8.acceptRanges", laid_unicode_utf8_acceptRanges), ("unicode/utf8.first", laid_unicode_utf8_first)] }
def ArkLongSaid : Prop := arkLongRow.holds Tryd.pinned (OpenSpec.ofChange arkLongSpec)

/-- ITS FALSE NEIGHBOUR: 'it returns false'. Refute it at one input. -/
def arkLongWrong : ChangeSpec := { name := "arkLong", fn := fun _ => fun
  | [d1, d2] => { results := [.lit (.bool false)], args := [d1, d2] }
  | _ => none }
def ArkLongWrongFalsely : Prop := arkLongRow.holds Tryd.pinned (OpenSpec.ofChange arkLongWrong)

/-- 'mewslaw6.ArkOneForm': WHATEVER THE INPUT: true; the input reads as it did. -/
def arkOneFormSpec : ChangeSpec := { name := "arkOneForm", fn := fun _ => fun
  | [d1, d2, d3] => { results := [.lit (.bool true)], args := [d1, d2, d3] }
  | _ => none }
def arkOneFormRow : OpenClaim := { program := "ytdmladdpbdcpjaadoor", sum := "089f28ec5e0a14b3ca6f195bedd2dde59dfc80a2bd5e077e308a1939623f3c02", func := "mews/mewslaw6.ArkOneForm", spec := "arkOneForm", inPlace := ["internal/bytealg.CountString", "internal/bytealg.IndexByteString", "internal/bytealg.IndexString", "internal/bytealg.abigen_runtime_cmpstring", "internal/abi.NoEscape"], unfollowed := true, recurses := true, named := ["unicode/utf8.first", "unicode/utf8.acceptRanges", "internal/bytealg.MaxLen"], apart := false, laid := [("unicode/utf8.acceptRanges", laid_unicode_utf8_acceptRanges), ("unicode/utf8.first", laid_unicode_utf8_first)] }
def ArkOneFormSaid : Prop := arkOneFormRow.holds Tryd.pinned (OpenSpec.ofChange arkOneFormSpec)

/-- ITS FALSE NEIGHBOUR: 'it returns false'. Refute it at one input. -/
def arkOneFormWrong : ChangeSpec := { name := "arkOneForm", fn := fun _ => fun
  | [d1, d2, d3] => { results := [.lit (.bool false)], args := [d1, d2, d3] }
  | _ => none }
def ArkOneFormWrongFalsely : Prop := arkOneFormRow.holds Tryd.pinned (OpenSpec.ofChange arkOneFormWrong)

/-- 'mewslaw6.ArkSums': WHATEVER THE INPUT: true; the input reads as it did. -/
def arkSumsSpec : ChangeSpec := { name := "arkSums", fn := fun _ => fun
  | [d1, d2] => { results := [.lit (.bool true)], args := [d1, d2] }
  | _ => none }
def arkSumsRow : OpenClaim := { program := "ytdmladdpbdcpjaadoor", sum := "089f28ec5e0a14b3ca6f195bedd2dde59dfc80a2bd5e077e308a1939623f3c02", func := "mews/mewslaw6.ArkSums", spec := "arkSums", inPlace := ["internal/bytealg.CountString", "internal/bytealg.IndexByteString", "internal/bytealg.IndexString", "internal/bytealg.abigen_runtime_cmpstring", "internal/abi.NoEscape"], unfollowed := true, recurses := true, named := ["unicode/utf8.first", "unicode/utf8.acceptRanges", "internal/bytealg.MaxLen"], apart := false, laid := [("unicode/utf8.acceptRanges", laid_unicode_utf8_acceptRanges), ("unicode/utf8.first", laid_unicode_utf8_first)] }
def ArkSumsSaid : Prop := arkSumsRow.holds Tryd.pinned (OpenSpec.ofChange arkSumsSpec)

/-- ITS FALSE NEIGHBOUR: 'it returns false'. Refute it at one input. -/
def arkSumsWrong : ChangeSpec := { name := "arkSums", fn := fun _ => fun
  | [d1, d2] => { results := [.lit (.bool false)], args := [d1, d2] }
  | _ => none }
def ArkSumsWrongFalsely : Prop := arkSumsRow.holds Tryd.pinned (OpenSpec.ofChange arkSumsWrong)

/-- 'mewslaw6.ArkBack': WHATEVER THE INPUT: true; the input reads as it did. -/
def arkBackSpec : ChangeSpec := { name := "arkBack", fn := fun _ => fun
  | [d1, d2, d3] => { results := [.lit (.bool true)], args := [d1, d2, d3] }
  | _ => none }
def arkBackRow : OpenClaim := { program := "ytdmladdpbdcpjaadoor", sum := "089f28ec5e0a14b3ca6f195bedd2dde59dfc80a2bd5e077e308a1939623f3c02", func := "mews/mewslaw6.ArkBack", spec := "arkBack", inPlace := ["internal/bytealg.CountString", "internal/bytealg.IndexByteString", "internal/bytealg.IndexString", "internal/bytealg.abigen_runtime_cmpstring", "internal/abi.NoEscape"], unfollowed := true, recurses := true, named := ["unicode/utf8.first", "unicode/utf8.acceptRanges", "internal/bytealg.MaxLen"], apart := false, laid := [("unicode/utf8.acceptRanges", laid_unicode_utf8_acceptRanges), ("unicode/utf8.first", laid_unicode_utf8_first)] }
def ArkBackSaid : Prop := arkBackRow.holds Tryd.pinned (OpenSpec.ofChange arkBackSpec)

/-- ITS FALSE NEIGHBOUR: 'it returns false'. Refute it at one input. -/
def arkBackWrong : ChangeSpec := { name := "arkBack", fn := fun _ => fun
  | [d1, d2, d3] => { results := [.lit (.bool false)], args := [d1, d2, d3] }
  | _ => none }
def ArkBackWrongFalsely : Prop := arkBackRow.holds Tryd.pinned (OpenSpec.ofChange arkBackWrong)

/- THE SECOND FORM. 'bulk': how many values and letters a reading holds, each counted each time it is reached (what is shared counts as often as it is met; a slice's spare places count too). A statement '..UptoSaid' is the law's where the arguments, and the package variables that the reading takes, are together of bulk at most 1048576: NARROWER than '..Said'. Prove '..Said' where nothing that the law and all that it calls make is longer than what came in: it says more and counts as full. Else prove '..UptoSaid'. A law counts once. -/
mutual
def uptoBulk {H : Type} : DataW H → Nat
  | .lit (.string bytes) => bytes.length + 1
  | .lit _ => 1
  | .nil => 1
  | .ptr d => uptoBulk d + 1
  | .slice elems spare => uptoBulkAll elems + uptoBulkAll spare + 1
  | .agg parts => uptoBulkAll parts + 1
  | .iface _ d => uptoBulk d + 1
  | .map entries => uptoBulkEntries entries + 1
  | .held _ => 1
def uptoBulkAll {H : Type} : List (DataW H) → Nat
  | [] => 0
  | d :: r => uptoBulk d + uptoBulkAll r
def uptoBulkEntries {H : Type} : List (Lit × DataW H) → Nat
  | [] => 0
  | x :: r => uptoBulkEntry x + uptoBulkEntries r
def uptoBulkEntry {H : Type} : Lit × DataW H → Nat
  | (.string bytes, d) => bytes.length + uptoBulk d + 1
  | (_, d) => uptoBulk d + 1
 end
def uptoSmall : (H : Type) → List (DataW H) → Bool := fun _ ds => decide (uptoBulkAll ds ≤ 1048576)
def OpenSpec.upto (s : _root_.Go.ChangeSpec) : _root_.Go.OpenSpec := { _root_.Go.OpenSpec.ofChange s with cond := some uptoSmall }

/-- 'mewslaw6.ArkPacks', WHERE WHAT IT READS IS OF BULK AT MOST 1048576: true; the input reads as it did. -/
def arkPacksUptoRow : OpenClaim := { program := "ytdmladdpbdcpjaadoor", sum := "089f28ec5e0a14b3ca6f195bedd2dde59dfc80a2bd5e077e308a1939623f3c02", func := "mews/mewslaw6.ArkPacks", spec := "arkPacks", inPlace := ["internal/bytealg.CountString", "internal/bytealg.IndexByteString", "internal/bytealg.IndexString", "internal/bytealg.abigen_runtime_cmpstring", "internal/abi.NoEscape"], unfollowed := true, recurses := true, named := ["unicode/utf8.first", "unicode/utf8.acceptRanges", "internal/bytealg.MaxLen"], apart := false, laid := [("unicode/utf8.acceptRanges", laid_unicode_utf8_acceptRanges), ("unicode/utf8.first", laid_unicode_utf8_first)], narrowed := true }
def ArkPacksUptoSaid : Prop := arkPacksUptoRow.holds Tryd.pinned (OpenSpec.upto arkPacksSpec)

/-- 'mewslaw6.ArkTells', WHERE WHAT IT READS IS OF BULK AT MOST 1048576: true; the input reads as it did. -/
def arkTellsUptoRow : OpenClaim := { program := "ytdmladdpbdcpjaadoor", sum := "089f28ec5e0a14b3ca6f195bedd2dde59dfc80a2bd5e077e308a1939623f3c02", func := "mews/mewslaw6.ArkTells", spec := "arkTells", inPlace := ["internal/bytealg.CountString", "internal/bytealg.IndexByteString", "internal/bytealg.IndexString", "internal/bytealg.abigen_runtime_cmpstring", "internal/abi.NoEscape"], unfollowed := true, recurses := true, named := ["unicode/utf8.first", "unicode/utf8.acceptRanges", "internal/bytealg.MaxLen"], apart := false, laid := [("unicode/utf8.acceptRanges", laid_unicode_utf8_acceptRanges), ("unicode/utf8.first", laid_unicode_utf8_first)], narrowed := true }
def ArkTellsUptoSaid : Prop := arkTellsUptoRow.holds Tryd.pinned (OpenSpec.upto arkTellsSpec)

/-- 'mewslaw6.ArkUnpacks', WHERE WHAT IT READS IS OF BULK AT MOST 1048576: true; the input reads as it did. -/
def arkUnpacksUptoRow : OpenClaim := { program := "ytdmladdpbdcpjaadoor", sum := "089f28ec5e0a14b3ca6f195bedd2dde59dfc80a2bd5e077e308a1939623f3c02", func := "mews/mewslaw6.ArkUnpacks", spec := "arkUnpacks", inPlace := ["internal/bytealg.CountString", "internal/bytealg.IndexByteString", "internal/bytealg.IndexString", "internal/bytealg.abigen_runtime_cmpstring", "internal/abi.NoEscape"], unfollowed := true, recurses := true, named := ["unicode/utf8.first", "unicode/utf8.acceptRanges", "internal/bytealg.MaxLen"], apart := false, laid := [("unicode/utf8.acceptRanges", laid_unicode_utf8_acceptRanges), ("unicode/utf8.first", laid_unicode_utf8_first)], narrowed := true }
def ArkUnpacksUptoSaid : Prop := arkUnpacksUptoRow.holds Tryd.pinned (OpenSpec.upto arkUnpacksSpec)

/-- 'mewslaw6.ArkLong', WHERE WHAT IT READS IS OF BULK AT MOST 1048576: true; the input reads as it did. -/
def arkLongUptoRow : OpenClaim := { program := "ytdmladdpbdcpjaadoor", sum := "089f28ec5e0a14b3ca6f195bedd2dde59dfc80a2bd5e077e308a1939623f3c02", func := "mews/mewslaw6.ArkLong", spec := "arkLong", inPlace := ["internal/bytealg.CountString", "internal/bytealg.IndexByteString", "internal/bytealg.IndexString", "internal/bytealg.abigen_runtime_cmpstring", "internal/abi.NoEscape"], unfollowed := true, recurses := true, named := ["unicode/utf8.first", "unicode/utf8.acceptRanges", "internal/bytealg.MaxLen"], apart := false, laid := [("unicode/utf8.acceptRanges", laid_unicode_utf8_acceptRanges), ("unicode/utf8.first", laid_unicode_utf8_first)], narrowed := true }
def ArkLongUptoSaid : Prop := arkLongUptoRow.holds Tryd.pinned (OpenSpec.upto arkLongSpec)

/-- 'mewslaw6.ArkOneForm', WHERE WHAT IT READS IS OF BULK AT MOST 1048576: true; the input reads as it did. -/
def arkOneFormUptoRow : OpenClaim := { program := "ytdmladdpbdcpjaadoor", sum := "089f28ec5e0a14b3ca6f195bedd2dde59dfc80a2bd5e077e308a1939623f3c02", func := "mews/mewslaw6.ArkOneForm", spec := "arkOneForm", inPlace := ["internal/bytealg.CountString", "internal/bytealg.IndexByteString", "internal/bytealg.IndexString", "internal/bytealg.abigen_runtime_cmpstring", "internal/abi.NoEscape"], unfollowed := true, recurses := true, named := ["unicode/utf8.first", "unicode/utf8.acceptRanges", "internal/bytealg.MaxLen"], apart := false, laid := [("unicode/utf8.acceptRanges", laid_unicode_utf8_acceptRanges), ("unicode/utf8.first", laid_unicode_utf8_first)], narrowed := true }
def ArkOneFormUptoSaid : Prop := arkOneFormUptoRow.holds Tryd.pinned (OpenSpec.upto arkOneFormSpec)

/-- 'mewslaw6.ArkSums', WHERE WHAT IT READS IS OF BULK AT MOST 1048576: true; the input reads as it did. -/
def arkSumsUptoRow : OpenClaim := { program := "ytdmladdpbdcpjaadoor", sum := "089f28ec5e0a14b3ca6f195bedd2dde59dfc80a2bd5e077e308a1939623f3c02", func := "mews/mewslaw6.ArkSums", spec := "arkSums", inPlace := ["internal/bytealg.CountString", "internal/bytealg.IndexByteString", "internal/bytealg.IndexString", "internal/bytealg.abigen_runtime_cmpstring", "internal/abi.NoEscape"], unfollowed := true, recurses := true, named := ["unicode/utf8.first", "unicode/utf8.acceptRanges", "internal/bytealg.MaxLen"], apart := false, laid := [("unicode/utf8.acceptRanges", laid_unicode_utf8_acceptRanges), ("unicode/utf8.first", laid_unicode_utf8_first)], narrowed := true }
def ArkSumsUptoSaid : Prop := arkSumsUptoRow.holds Tryd.pinned (OpenSpec.upto arkSumsSpec)

/-- 'mewslaw6.ArkBack', WHERE WHAT IT READS IS OF BULK AT MOST 1048576: true; the input reads as it did. -/
def arkBackUptoRow : OpenClaim := { program := "ytdmladdpbdcpjaadoor", sum := "089f28ec5e0a14b3ca6f195bedd2dde59dfc80a2bd5e077e308a1939623f3c02", func := "mews/mewslaw6.ArkBack", spec := "arkBack", inPlace := ["internal/bytealg.CountString", "internal/bytealg.IndexByteString", "internal/bytealg.IndexString", "internal/bytealg.abigen_runtime_cmpstring", "internal/abi.NoEscape"], unfollowed := true, recurses := true, named := ["unicode/utf8.first", "unicode/utf8.acceptRanges", "internal/bytealg.MaxLen"], apart := false, laid := [("unicode/utf8.acceptRanges", laid_unicode_utf8_acceptRanges), ("unicode/utf8.first", laid_unicode_utf8_first)], narrowed := true }
def ArkBackUptoSaid : Prop := arkBackUptoRow.holds Tryd.pinned (OpenSpec.upto arkBackSpec)

end Rows
end Go.Proofs.YtdmladdpbdcpjaaDoor
