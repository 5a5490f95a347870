/- The walks of the small functions of the package num. -/
import Derived.Test.YtngambelchmihaaNumW
namespace Go.Proofs.Ytngambelchmihaa
open Go.RowKit Go.Proofs.YtngambelchmihaaW.PrintWords

theorem add_any (a b : Int) (w : World) : Calls Try.prog 7 #[.int .i64 a, .int .i64 b] w fun e w' => e = .returned (.int .i64 (wrap64 (a + b))) ∧ w = w' := by
  go_enter Try.func7, Try.ntmps7
  go_wp2
  go_ret
  exact ⟨rfl, rfl⟩
theorem mul_any (a b : Int) (w : World) : Calls Try.prog 6 #[.int .i64 a, .int .i64 b] w fun e w' => e = .returned (.int .i64 (wrap64 (a * b))) ∧ w = w' := by
  go_enter Try.func6, Try.ntmps6
  go_wp2
  go_ret
  exact ⟨rfl, rfl⟩
theorem div_zero (a b : Int) (h : b = 0) (w : World) : Calls Try.prog 10 #[.int .i64 a, .int .i64 b] w fun e w' => e = .returned (.tuple #[.int .i64 0, .int .i64 10]) ∧ w = w' := by
  subst h
  go_enter Try.func10, Try.ntmps10
  go_wp2
  go_ret2
  exact ⟨rfl, rfl⟩
theorem div_any (a b : Int) (h : ¬ b = 0) (w : World) : Calls Try.prog 10 #[.int .i64 a, .int .i64 b] w fun e w' => e = .returned (.tuple #[.int .i64 (wrap64 (a.tdiv b)), .int .i64 0]) ∧ w = w' := by
  have h0 : (b == 0) = false := by simpa using h
  go_enter Try.func10, Try.ntmps10
  go_wp2
  go_ret2
  exact ⟨rfl, rfl⟩
theorem rem_zero (a b : Int) (h : b = 0) (w : World) : Calls Try.prog 11 #[.int .i64 a, .int .i64 b] w fun e w' => e = .returned (.tuple #[.int .i64 0, .int .i64 10]) ∧ w = w' := by
  subst h
  go_enter Try.func11, Try.ntmps11
  go_wp2
  go_ret2
  exact ⟨rfl, rfl⟩
theorem rem_any (a b : Int) (h : ¬ b = 0) (w : World) : Calls Try.prog 11 #[.int .i64 a, .int .i64 b] w fun e w' => e = .returned (.tuple #[.int .i64 (a.tmod b), .int .i64 0]) ∧ w = w' := by
  have h0 : (b == 0) = false := by simpa using h
  go_enter Try.func11, Try.ntmps11
  go_wp2
  go_ret2
  exact ⟨rfl, rfl⟩
/-- 1 or 0. -/
def one (b : Bool) : Int := if b = true then 1 else 0
theorem truth_any (b : Bool) (w : World) : Calls Try.prog 13 #[.bool b] w fun e w' => e = .returned (.int .i64 (one b)) ∧ w = w' := by
  cases b
  all_goals
    go_enter Try.func13, Try.ntmps13
    go_wp2
    go_ret
    exact ⟨rfl, rfl⟩
theorem less_any (a b : Int) (w : World) : Calls Try.prog 8 #[.int .i64 a, .int .i64 b] w fun e w' => e = .returned (.int .i64 (one (decide (a < b)))) ∧ w = w' := by
  go_enter Try.func8, Try.ntmps8
  go_wp2_with (go_at_call 13; refine (truth_any _ _).mono ?_; rintro e w' ⟨rfl, rfl⟩)
  go_ret
  exact ⟨rfl, rfl⟩
theorem same_any (a b : Int) (w : World) : Calls Try.prog 9 #[.int .i64 a, .int .i64 b] w fun e w' => e = .returned (.int .i64 (one (a == b))) ∧ w = w' := by
  go_enter Try.func9, Try.ntmps9
  go_wp2_with (go_at_call 13; refine (truth_any _ _).mono ?_; rintro e w' ⟨rfl, rfl⟩)
  go_ret
  exact ⟨rfl, rfl⟩
theorem add_is {a b r : Int} (h : Hid (wrap64 (a + b) = r)) (w : World) : Calls Try.prog 7 #[.int .i64 a, .int .i64 b] w fun e w' => e = .returned (.int .i64 r) ∧ w = w' := by
  have := add_any a b w
  rwa [h.out] at this
theorem mul_is {a b r : Int} (h : Hid (wrap64 (a * b) = r)) (w : World) : Calls Try.prog 6 #[.int .i64 a, .int .i64 b] w fun e w' => e = .returned (.int .i64 r) ∧ w = w' := by
  have := mul_any a b w
  rwa [h.out] at this
theorem less_is {a b r : Int} (h : Hid (one (decide (a < b)) = r)) (w : World) : Calls Try.prog 8 #[.int .i64 a, .int .i64 b] w fun e w' => e = .returned (.int .i64 r) ∧ w = w' := by
  have := less_any a b w
  rwa [h.out] at this
theorem same_is {a b r : Int} (h : Hid (one (a == b) = r)) (w : World) : Calls Try.prog 9 #[.int .i64 a, .int .i64 b] w fun e w' => e = .returned (.int .i64 r) ∧ w = w' := by
  have := same_any a b w
  rwa [h.out] at this
theorem name_of (x : Int) : ∃ r, Hid (x = r) := ⟨x, Lib.hid rfl⟩
theorem prt_five : prt (-5) = ByteArray.mk #[45, 53] := by
  unfold prt
  rw [if_pos (by omega), show (-5 : Int).natAbs = 5 from rfl, dg_small (by omega)]
  rfl
theorem known_any (w : World) : Calls Try.prog 5 #[] w fun e w' => e = .returned (.bool true) ∧ Below w.heap.size w w' := by
  have hw : wrap64 (-3) = -3 := by unfold wrap64; omega
  go_enter Try.func5, Try.ntmps5
  go_wp2_with (first | (go_at_call 10; first | ((with_reducible refine (div_any (-7) 2 (by omega) _).mono ?_); rintro e w' ⟨rfl, rfl⟩) | ((with_reducible refine (div_zero 1 0 rfl _).mono ?_); rintro e w' ⟨rfl, rfl⟩)) | (go_at_call 11; (with_reducible refine (rem_any (-7) 2 (by omega) _).mono ?_); rintro e w' ⟨rfl, rfl⟩) | (go_at_call 12; (with_reducible refine (print_any (-5) (by omega) (by omega) _).mono ?_); rw [prt_five]; rintro e w' ⟨rfl, hb⟩))
  go_ret
  exact ⟨rfl, hb⟩
end Go.Proofs.Ytngambelchmihaa
