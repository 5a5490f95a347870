/- What the listed variables give a walk on complex numbers. -/
import Derived.Test.YtlfkachphpneiaaDoorCKnown
import Derived.Test.YtlfkachphpneiaaDoorRows
import Derived.LaidMore
import Derived.Stop.LaidErr
import Derived.Lib.LaidTab
namespace Go.Proofs.YtlfkachphpneiaaDoor
open Go.RowKit Go.ChangeShapes

theorem gES : Tryd.prog.globalNamed "strconv.ErrSyntax" = some 1 := by kernel_rfl
theorem gESType : (Tryd.prog.globals[1]?).map (·.type) = some 52 := by kernel_rfl
theorem gDB : Tryd.prog.globalNamed "math/bits.deBruijn64tab" = some 6 := by kernel_rfl
theorem cellsErr : Tryd.prog.cellsOf 109 = 1 := by kernel_rfl
theorem cellsStr : Tryd.prog.cellsOf 9 = 1 := by kernel_rfl
theorem starErr : "*" ++ "errors.errorString" = "*errors.errorString" := by decide
theorem rowErr (u : TypeId) (h : Tryd.prog.typeName? 3 u = some "*errors.errorString") : u = 107 :=
  typeName_ptr_named (nm := "errors.errorString") (by rw [starErr]; kernel_rfl) (by kernel_rfl) (by decide) u (by rw [starErr]; exact h)
def dbzs : List Int := (match (Rows.laid_math_bits_deBruijn64tab : DataW Unit) with | .agg l => l.map (fun d => (match d with | .lit (.int _ z) => z | _ => 0)) | _ => [])
theorem of_laid {W : World} (h : laidMetH Tryd.prog [("math/bits.deBruijn32tab", Rows.laid_math_bits_deBruijn32tab), ("math/bits.deBruijn64tab", Rows.laid_math_bits_deBruijn64tab), ("internal/strconv.uint64pow10", Rows.laid_internal_strconv_uint64pow10), ("strconv.ErrRange", Rows.laid_strconv_ErrRange), ("strconv.ErrSyntax", Rows.laid_strconv_ErrSyntax)] W) : LaidC W := by
  rw [MakeChecks.laidMetH_plain _ _ _ (by kernel_rfl)] at h
  obtain ⟨a1, s1, hv1, -, -, -⟩ := laid_sentinel h.tail.tail.tail.tail gES gESType Tryd.underlying52 rowErr Tryd.underlying107 Tryd.underlying109 rfl rfl Tryd.underlying9 cellsErr cellsStr
  have ht : Lib.TabIs Tryd.prog W "math/bits.deBruijn64tab" .u8 dbzs := by
    refine Lib.tabIs_of_head (t := 113) (e := 5) (n := 64) gDB (by kernel_rfl) Tryd.underlying113 Tryd.underlying5 (by kernel_rfl) (by kernel_rfl) (rest := _) h.tail
  have hc := ht.cell gDB 15 (by decide)
  have hv := World.var?_cell gES hv1 0
  exact ⟨⟨_, _, hv⟩, hc⟩
end Go.Proofs.YtlfkachphpneiaaDoor
