/- NumRing: for every three integers, the call answers true. -/
import Derived.Test.YtngambelchmihaaNumF
import Derived.Test.YtngambelchmihaaPlain1
namespace Go.Proofs.Ytngambelchmihaa
open Go.RowKit Go.Proofs.YtngambelchmihaaW.PrintWords

theorem one_bd (b : Bool) : 0 ≤ one b ∧ one b ≤ 1 := by unfold one; split <;> omega
set_option maxHeartbeats 2000000 in
theorem ring_any (a b c : Int) (w : World) : Calls Try.prog 4 #[.int .i64 a, .int .i64 b, .int .i64 c] w fun e w' => e = .returned (.bool true) ∧ Below w.heap.size w w' := by
  obtain ⟨p, A1⟩ := name_of (wrap64 (a + b))
  have A2 : Hid (wrap64 (b + a) = p) := Lib.hid (by rw [← A1.out, Int.add_comm])
  obtain ⟨q, A3⟩ := name_of (wrap64 (a * b))
  have A4 : Hid (wrap64 (b * a) = q) := Lib.hid (by rw [← A3.out, Int.mul_comm])
  obtain ⟨r, A5⟩ := name_of (wrap64 (p + c))
  obtain ⟨s, A6⟩ := name_of (wrap64 (b + c))
  have A7 : Hid (wrap64 (a + s) = r) := Lib.hid (by rw [← A5.out, ← A6.out, ← A1.out, wrap64_add_l, wrap64_add_r, Int.add_assoc])
  obtain ⟨t, A8⟩ := name_of (wrap64 (q * c))
  obtain ⟨u, A9⟩ := name_of (wrap64 (b * c))
  have B1 : Hid (wrap64 (a * u) = t) := Lib.hid (by rw [← A8.out, ← A9.out, ← A3.out, wrap64_mul_l, wrap64_mul_r, Int.mul_assoc])
  obtain ⟨x, B2⟩ := name_of (wrap64 (a * s))
  obtain ⟨y, B3⟩ := name_of (wrap64 (a * c))
  have B4 : Hid (wrap64 (q + y) = x) := Lib.hid (by rw [← B2.out, ← B3.out, ← A6.out, ← A3.out, wrap64_mul_r, wrap64_add_l, wrap64_add_r, Int.mul_add])
  obtain ⟨k, B5⟩ := name_of (one (decide (a < b)))
  obtain ⟨l, B6⟩ := name_of (one (decide (b < a)))
  obtain ⟨m, B7⟩ := name_of (one (a == b))
  obtain ⟨d1, d2, d3, d4, d5, d6⟩ : 0 ≤ k ∧ k ≤ 1 ∧ 0 ≤ l ∧ l ≤ 1 ∧ 0 ≤ m ∧ m ≤ 1 := by
    rw [← B5.out, ← B6.out, ← B7.out]
    exact ⟨(one_bd _).1, (one_bd _).2, (one_bd _).1, (one_bd _).2, (one_bd _).1, (one_bd _).2⟩
  have h6 : (k + l + m == 1) = true := by
    rw [← B5.out, ← B6.out, ← B7.out]
    rcases Int.lt_trichotomy a b with h | h | h
    · simp [one, h, show ¬ b < a by omega, show ¬ a = b by omega]
    · subst h; simp [one]
    · simp [one, h, show ¬ a < b by omega, show ¬ a = b by omega]
  go_enter Try.func4, Try.ntmps4
  go_wp2_with (first | (go_at_call 5; refine (known_any _).mono ?_; rintro e w' ⟨rfl, hb⟩) | (go_at_call 7; first | ((with_reducible refine (add_is A1 _).mono ?_); rintro e w' ⟨rfl, rfl⟩) | ((with_reducible refine (add_is A2 _).mono ?_); rintro e w' ⟨rfl, rfl⟩) | ((with_reducible refine (add_is A5 _).mono ?_); rintro e w' ⟨rfl, rfl⟩) | ((with_reducible refine (add_is A6 _).mono ?_); rintro e w' ⟨rfl, rfl⟩) | ((with_reducible refine (add_is A7 _).mono ?_); rintro e w' ⟨rfl, rfl⟩) | ((with_reducible refine (add_is B4 _).mono ?_); rintro e w' ⟨rfl, rfl⟩)) | (go_at_call 6; first | ((with_reducible refine (mul_is A3 _).mono ?_); rintro e w' ⟨rfl, rfl⟩) | ((with_reducible refine (mul_is A4 _).mono ?_); rintro e w' ⟨rfl, rfl⟩) | ((with_reducible refine (mul_is A8 _).mono ?_); rintro e w' ⟨rfl, rfl⟩) | ((with_reducible refine (mul_is A9 _).mono ?_); rintro e w' ⟨rfl, rfl⟩) | ((with_reducible refine (mul_is B1 _).mono ?_); rintro e w' ⟨rfl, rfl⟩) | ((with_reducible refine (mul_is B2 _).mono ?_); rintro e w' ⟨rfl, rfl⟩) | ((with_reducible refine (mul_is B3 _).mono ?_); rintro e w' ⟨rfl, rfl⟩)) | (go_at_call 8; first | ((with_reducible refine (less_is B5 _).mono ?_); rintro e w' ⟨rfl, rfl⟩) | ((with_reducible refine (less_is B6 _).mono ?_); rintro e w' ⟨rfl, rfl⟩)) | (go_at_call 9; (with_reducible refine (same_is B7 _).mono ?_); rintro e w' ⟨rfl, rfl⟩))
  go_ret
  exact ⟨rfl, hb⟩
theorem ring_walk (a b c : Int) (_w0 : (Lit.int .i64 a).wf = true) (_w1 : (Lit.int .i64 b).wf = true) (_w2 : (Lit.int .i64 c).wf = true) (w : World) : Calls Try.prog 4 #[.int .i64 a, .int .i64 b, .int .i64 c] w fun e w' => e = .returned (.bool true) ∧ Below w.heap.size w w' := ring_any a b c w
end Go.Proofs.Ytngambelchmihaa
