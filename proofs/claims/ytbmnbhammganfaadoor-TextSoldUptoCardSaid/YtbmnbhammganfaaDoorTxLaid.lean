/-
  What is laid reads as the library's variables; the row's words.
-/
import Derived.Test.YtbmnbhammganfaaDoorTxLw
import Derived.Test.YtbmnbhammganfaaDoorRows
import Derived.Stop.LaidErr
import Derived.Lib.LaidTab
import Derived.MakeChecks
import Derived.LaidMore
namespace Go.Proofs.YtbmnbhammganfaaDoor
open Go.RowKit Go.Lib

theorem gPow : Tryd.prog.globalNamed "internal/strconv.uint64pow10" = some 0 := by kernel_rfl
theorem gPowT : (Tryd.prog.globals[0]?).map (·.type) = some 155 := by kernel_rfl
theorem gSyn : Tryd.prog.globalNamed "strconv.ErrSyntax" = some 1 := by kernel_rfl
theorem gSynT : (Tryd.prog.globals[1]?).map (·.type) = some 112 := by kernel_rfl
theorem gRng : Tryd.prog.globalNamed "strconv.ErrRange" = some 2 := by kernel_rfl
theorem gRngT : (Tryd.prog.globals[2]?).map (·.type) = some 112 := by kernel_rfl
theorem cells64 : Tryd.prog.cellsOf 138 = 1 := by kernel_rfl
theorem cellsPow : Tryd.prog.cellsOf 155 = 20 := by kernel_rfl
theorem cellsErr : Tryd.prog.cellsOf 175 = 1 := by kernel_rfl
theorem cellsStr : Tryd.prog.cellsOf 9 = 1 := by kernel_rfl
theorem starErr : "*" ++ "errors.errorString" = "*errors.errorString" := by decide
theorem rowErr (u : TypeId) (h : Tryd.prog.typeName? 3 u = some "*errors.errorString") : u = 173 :=
  typeName_ptr_named (nm := "errors.errorString") (by rw [starErr]; kernel_rfl) (by kernel_rfl) (by decide) u (by rw [starErr]; exact h)
theorem lw_of_laid {w : World} (h : laidMetH Tryd.prog Rows.textWordsRow.laid w) : Lw w := by
  rw [MakeChecks.laidMetH_plain _ _ _ (by kernel_rfl)] at h
  have h' : laidMet Tryd.prog [("math/bits.deBruijn32tab", Rows.laid_math_bits_deBruijn32tab), ("math/bits.deBruijn64tab", Rows.laid_math_bits_deBruijn64tab), ("internal/strconv.uint64pow10", Rows.laid_internal_strconv_uint64pow10), ("unicode/utf8.acceptRanges", Rows.laid_unicode_utf8_acceptRanges), ("strconv.ErrRange", Rows.laid_strconv_ErrRange), ("strconv.ErrSyntax", Rows.laid_strconv_ErrSyntax), ("unicode/utf8.first", Rows.laid_unicode_utf8_first)] w := h
  refine ⟨tabIs_of_head (zs := pow10Tab) gPow gPowT Tryd.underlying155 Tryd.underlying138 cells64 cellsPow h'.tail.tail, ?_, ?_⟩
  · obtain ⟨a, s, hv, _⟩ := laid_sentinel h'.tail.tail.tail.tail.tail gSyn gSynT Tryd.underlying112 rowErr Tryd.underlying173 Tryd.underlying175 rfl rfl Tryd.underlying9 cellsErr cellsStr
    exact ⟨_, _, hv⟩
  · obtain ⟨a, s, hv, _⟩ := laid_sentinel h'.tail.tail.tail.tail gRng gRngT Tryd.underlying112 rowErr Tryd.underlying173 Tryd.underlying175 rfl rfl Tryd.underlying9 cellsErr cellsStr
    exact ⟨_, _, hv⟩
end Go.Proofs.YtbmnbhammganfaaDoor
