/- What the listed variables give a walk: the two sentinels of strconv hold something that is no nil. -/
import Derived.Test.YtngambelchmihaaDoorNumP
import Derived.Test.YtngambelchmihaaDoorRows
import Derived.LaidMore
import Derived.Stop.LaidErr
namespace Go.Proofs.YtngambelchmihaaDoor
open Go.RowKit Go.ChangeShapes

theorem gES : Tryd.prog.globalNamed "strconv.ErrSyntax" = some 0 := by kernel_rfl
theorem gER : Tryd.prog.globalNamed "strconv.ErrRange" = some 1 := by kernel_rfl
theorem gESType : (Tryd.prog.globals[0]?).map (·.type) = some 41 := by kernel_rfl
theorem gERType : (Tryd.prog.globals[1]?).map (·.type) = some 41 := by kernel_rfl
theorem cellsErr : Tryd.prog.cellsOf 62 = 1 := by kernel_rfl
theorem cellsStr : Tryd.prog.cellsOf 9 = 1 := by kernel_rfl
theorem starErr : "*" ++ "errors.errorString" = "*errors.errorString" := by decide
theorem rowErr (u : TypeId) (h : Tryd.prog.typeName? 3 u = some "*errors.errorString") : u = 60 :=
  typeName_ptr_named (nm := "errors.errorString") (by rw [starErr]; kernel_rfl) (by kernel_rfl) (by decide) u (by rw [starErr]; exact h)
theorem of_laid {W : World} (h : laidMetH Tryd.prog [("math/bits.deBruijn32tab", Rows.laid_math_bits_deBruijn32tab), ("math/bits.deBruijn64tab", Rows.laid_math_bits_deBruijn64tab), ("internal/strconv.uint64pow10", Rows.laid_internal_strconv_uint64pow10), ("strconv.ErrRange", Rows.laid_strconv_ErrRange), ("strconv.ErrSyntax", Rows.laid_strconv_ErrSyntax)] W) : Laid W := by
  rw [MakeChecks.laidMetH_plain _ _ _ (by kernel_rfl)] at h
  obtain ⟨a0, s0, hv0, -, -, -⟩ := laid_sentinel h.tail.tail.tail gER gERType Tryd.underlying41 rowErr Tryd.underlying60 Tryd.underlying62 rfl rfl Tryd.underlying9 cellsErr cellsStr
  obtain ⟨a1, s1, hv1, -, -, -⟩ := laid_sentinel h.tail.tail.tail.tail gES gESType Tryd.underlying41 rowErr Tryd.underlying60 Tryd.underlying62 rfl rfl Tryd.underlying9 cellsErr cellsStr
  exact ⟨⟨_, _, hv1⟩, _, _, hv0⟩
end Go.Proofs.YtngambelchmihaaDoor
