/- Plain facts on wrapped numbers: no program in sight. -/
import Derived.WalkKit
namespace Go.Proofs.YtngambelchmihaaDoor
open Go.RowKit

theorem wrap64_emod (x : Int) : wrap64 x % 18446744073709551616 = x % 18446744073709551616 := by unfold wrap64; omega
theorem wrap64_congr {x y : Int} (h : x % 18446744073709551616 = y % 18446744073709551616) : wrap64 x = wrap64 y := by unfold wrap64; omega
theorem wrap64_idem (x : Int) : wrap64 (wrap64 x) = wrap64 x := wrap64_congr (wrap64_emod x)
theorem wrap64_mul_l (x y : Int) : wrap64 (wrap64 x * y) = wrap64 (x * y) := wrap64_congr (by rw [Int.mul_emod, wrap64_emod, ← Int.mul_emod])
theorem wrap64_mul_r (x y : Int) : wrap64 (x * wrap64 y) = wrap64 (x * y) := wrap64_congr (by rw [Int.mul_emod, wrap64_emod, ← Int.mul_emod])
theorem wrap64_add_l (x y : Int) : wrap64 (wrap64 x + y) = wrap64 (x + y) := wrap64_congr (by rw [Int.add_emod, wrap64_emod, ← Int.add_emod])
theorem wrap64_add_r (x y : Int) : wrap64 (x + wrap64 y) = wrap64 (x + y) := wrap64_congr (by rw [Int.add_emod, wrap64_emod, ← Int.add_emod])
theorem wrap64_same {x : Int} (h0 : -9223372036854775808 ≤ x) (h1 : x ≤ 9223372036854775807) : wrap64 x = x := by unfold wrap64; omega
theorem wrap64_bd (x : Int) : -9223372036854775808 ≤ wrap64 x ∧ wrap64 x ≤ 9223372036854775807 := by unfold wrap64; omega
theorem u64_wrap (x : Int) : IntKind.u64.wrap x = x % 18446744073709551616 := by simp [IntKind.wrap, IntKind.bits, IntKind.signed]
end Go.Proofs.YtngambelchmihaaDoor
