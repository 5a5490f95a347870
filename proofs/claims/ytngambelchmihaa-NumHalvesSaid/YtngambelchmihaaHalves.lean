/- NumHalves: for every integer and every count, the call answers true. -/
import Derived.Test.YtngambelchmihaaNumF
import Derived.Test.YtngambelchmihaaPlain1
import Derived.OpenShut
namespace Go.Proofs.Ytngambelchmihaa
open Go.RowKit Go.Proofs.YtngambelchmihaaW.PrintWords

/-- A number doubled j times. -/
def dbl (a : Int) (j : Nat) : Int := wrap64 (a * 2 ^ j)
theorem dbl_zero {a : Int} (h0 : -9223372036854775808 ≤ a) (h1 : a ≤ 9223372036854775807) : dbl a 0 = a := by unfold dbl; rw [Int.pow_zero, Int.mul_one, wrap64_same h0 h1]
theorem dbl_succ (a : Int) (j : Nat) : wrap64 (dbl a j * 2) = dbl a (j + 1) := by unfold dbl; rw [wrap64_mul_l, Int.mul_assoc, ← Int.pow_succ]
theorem dbl_none (a : Int) (j : Nat) (h : 64 ≤ j) : dbl a j = 0 := by
  unfold dbl
  obtain ⟨d, rfl⟩ : ∃ d, j = 64 + d := ⟨j - 64, by omega⟩
  rw [Int.pow_add, ← Int.mul_assoc, Int.mul_comm a, Int.mul_assoc]
  generalize a * 2 ^ d = x
  rw [show (2 : Int) ^ 64 = 18446744073709551616 from by decide]
  unfold wrap64
  omega
set_option maxHeartbeats 2000000 in
set_option maxRecDepth 100000 in
theorem halves_walk (a k : Int) (w0 : (Lit.int .i64 a).wf = true) (w1 : (Lit.int .u8 k).wf = true) (w : World) : Calls Try.prog 3 #[.int .i64 a, .int .u8 k] w fun e w' => e = .returned (.bool true) ∧ Below w.heap.size w w' := by
  obtain ⟨k1, k2⟩ := bounds_u8 w1
  obtain ⟨a1, a2⟩ := bounds_i64 w0
  go_enter Try.func3, Try.ntmps3
  go_wp2_with (first | (go_at_call 5; refine (known_any _).mono ?_; rintro e w' ⟨rfl, hb⟩))
  go_loop [5, 6] (fun n i => ∃ j : Nat, (j : Int) ≤ k % 70 ∧ i = .int .i64 j ∧ n = .int .i64 (dbl a j)) (fun _ i => (70 - intOf i).toNat)
  case atStart => exact ⟨0, by omega, rfl, by rw [dbl_zero a1 a2]⟩
  case round =>
    obtain ⟨j, hj, rfl, rfl⟩ := hrel
    by_cases hlt : (j : Int) < k % 70
    · have H := Lib.hid (dbl_succ a j)
      go_wp2_with (first | (go_at_call 6; ((with_reducible refine (mul_is H _).mono ?_); rintro e w' ⟨rfl, rfl⟩)))
      go_round
      case rel => exact ⟨j + 1, by omega, by go_num, rfl⟩
      case measure => simp [intOf]; omega
    · by_cases h64 : (64 : Int) ≤ k % 70
      · have hd := dbl_none a j (by omega)
        go_wp2
        go_ret
        exact ⟨rfl, hb⟩
      · have he : wrap64 (IntKind.u64.wrap (IntKind.u64.wrap a * 2 ^ (k % 70).toNat)) = dbl a j := by
          obtain rfl : j = (k % 70).toNat := by omega
          unfold dbl
          apply wrap64_congr
          rw [u64_wrap, u64_wrap, Int.emod_emod, Int.mul_emod, Int.emod_emod, ← Int.mul_emod]
        obtain ⟨p, H1⟩ := name_of (wrap64 (a + a))
        have H2 : Hid (wrap64 (a * 2) = p) := Lib.hid (by rw [← H1.out, Int.mul_comm, Int.two_mul])
        go_wp2_with (first | (go_at_call 6; ((with_reducible refine (mul_is H2 _).mono ?_); rintro e w' ⟨rfl, rfl⟩)) | (go_at_call 7; ((with_reducible refine (add_is H1 _).mono ?_); rintro e w' ⟨rfl, rfl⟩)))
        go_ret
        exact ⟨rfl, hb⟩
end Go.Proofs.Ytngambelchmihaa
