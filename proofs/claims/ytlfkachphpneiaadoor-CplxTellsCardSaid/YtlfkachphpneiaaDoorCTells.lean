/- CplxTells: for every two complex numbers by their bits and every text, the call answers true. -/
import Derived.Test.YtlfkachphpneiaaDoorCTellsA
import Derived.Test.YtlfkachphpneiaaDoorCTellsB
namespace Go.Proofs.YtlfkachphpneiaaDoor
open Go.RowKit Go.Proofs.YtlfkachphpneiaaDoorW.PrintWords

theorem ctells_walk (a b c d : Int) (s : ByteArray) (w0 : (Lit.int .u64 a).wf = true) (w1 : (Lit.int .u64 b).wf = true) (_w2 : (Lit.int .u64 c).wf = true) (_w3 : (Lit.int .u64 d).wf = true) (hs : s.size ≤ 140737488351232) (w : World) (hl : LaidC w) :
    Calls Tryd.prog 6 #[.int .u64 a, .int .u64 b, .int .u64 c, .int .u64 d, .string s] w fun e w' => e = .returned (.bool true) ∧ Below w.heap.size w w' := by
  obtain ⟨a1, a2⟩ := bounds_u64 w0
  obtain ⟨b1, b2⟩ := bounds_u64 w1
  obtain ⟨x, rfl⟩ := Int.eq_ofNat_of_zero_le a1
  obtain ⟨y, rfl⟩ := Int.eq_ofNat_of_zero_le b1
  have hx : x < 18446744073709551616 := by omega
  have hy : y < 18446744073709551616 := by omega
  obtain ⟨z1, z2, er, _, hc⟩ := cp_shape s
  rcases hn : (nan x || nan y) with _ | _
  · exact ctells_A x y hx hy c d s z1 z2 er (Lib.hid hc) (Lib.hid hn) hs w hl
  · exact ctells_B x y hx hy c d s z1 z2 er (Lib.hid hc) (Lib.hid hn) hs w hl
end Go.Proofs.YtlfkachphpneiaaDoor
