/- The walks of the small functions of the package num. -/
import Derived.Test.YtngambelchmihaaDoorNumW
namespace Go.Proofs.YtngambelchmihaaDoor
open Go.RowKit Go.Proofs.YtngambelchmihaaDoorW.PrintWords

theorem add_any (a b : Int) (w : World) : Calls Tryd.prog 11 #[.int .i64 a, .int .i64 b] w fun e w' => e = .returned (.int .i64 (wrap64 (a + b))) ∧ w = w' := by
  go_enter Tryd.func11, Tryd.ntmps11
  go_wp2
  go_ret
  exact ⟨rfl, rfl⟩
theorem sub_any (a b : Int) (w : World) : Calls Tryd.prog 10 #[.int .i64 a, .int .i64 b] w fun e w' => e = .returned (.int .i64 (wrap64 (a - b))) ∧ w = w' := by
  go_enter Tryd.func10, Tryd.ntmps10
  go_wp2
  go_ret
  exact ⟨rfl, rfl⟩
theorem mul_any (a b : Int) (w : World) : Calls Tryd.prog 14 #[.int .i64 a, .int .i64 b] w fun e w' => e = .returned (.int .i64 (wrap64 (a * b))) ∧ w = w' := by
  go_enter Tryd.func14, Tryd.ntmps14
  go_wp2
  go_ret
  exact ⟨rfl, rfl⟩
theorem neg_any (a : Int) (w : World) : Calls Tryd.prog 12 #[.int .i64 a] w fun e w' => e = .returned (.int .i64 (wrap64 (-a))) ∧ w = w' := by
  go_enter Tryd.func12, Tryd.ntmps12
  go_wp2
  go_ret
  exact ⟨rfl, rfl⟩
theorem div_zero (a b : Int) (h : b = 0) (w : World) : Calls Tryd.prog 13 #[.int .i64 a, .int .i64 b] w fun e w' => e = .returned (.tuple #[.int .i64 0, .int .i64 10]) ∧ w = w' := by
  subst h
  go_enter Tryd.func13, Tryd.ntmps13
  go_wp2
  go_ret2
  exact ⟨rfl, rfl⟩
theorem div_any (a b : Int) (h : ¬ b = 0) (w : World) : Calls Tryd.prog 13 #[.int .i64 a, .int .i64 b] w fun e w' => e = .returned (.tuple #[.int .i64 (wrap64 (a.tdiv b)), .int .i64 0]) ∧ w = w' := by
  have h0 : (b == 0) = false := by simpa using h
  go_enter Tryd.func13, Tryd.ntmps13
  go_wp2
  go_ret2
  exact ⟨rfl, rfl⟩
theorem rem_zero (a b : Int) (h : b = 0) (w : World) : Calls Tryd.prog 9 #[.int .i64 a, .int .i64 b] w fun e w' => e = .returned (.tuple #[.int .i64 0, .int .i64 10]) ∧ w = w' := by
  subst h
  go_enter Tryd.func9, Tryd.ntmps9
  go_wp2
  go_ret2
  exact ⟨rfl, rfl⟩
theorem rem_any (a b : Int) (h : ¬ b = 0) (w : World) : Calls Tryd.prog 9 #[.int .i64 a, .int .i64 b] w fun e w' => e = .returned (.tuple #[.int .i64 (a.tmod b), .int .i64 0]) ∧ w = w' := by
  have h0 : (b == 0) = false := by simpa using h
  go_enter Tryd.func9, Tryd.ntmps9
  go_wp2
  go_ret2
  exact ⟨rfl, rfl⟩
/-- 1 or 0. -/
def one (b : Bool) : Int := if b = true then 1 else 0
theorem truth_any (b : Bool) (w : World) : Calls Tryd.prog 26 #[.bool b] w fun e w' => e = .returned (.int .i64 (one b)) ∧ w = w' := by
  cases b
  all_goals
    go_enter Tryd.func26, Tryd.ntmps26
    go_wp2
    go_ret
    exact ⟨rfl, rfl⟩
theorem less_any (a b : Int) (w : World) : Calls Tryd.prog 21 #[.int .i64 a, .int .i64 b] w fun e w' => e = .returned (.int .i64 (one (decide (a < b)))) ∧ w = w' := by
  go_enter Tryd.func21, Tryd.ntmps21
  go_wp2_with (go_at_call 26; refine (truth_any _ _).mono ?_; rintro e w' ⟨rfl, rfl⟩)
  go_ret
  exact ⟨rfl, rfl⟩
theorem same_any (a b : Int) (w : World) : Calls Tryd.prog 23 #[.int .i64 a, .int .i64 b] w fun e w' => e = .returned (.int .i64 (one (a == b))) ∧ w = w' := by
  go_enter Tryd.func23, Tryd.ntmps23
  go_wp2_with (go_at_call 26; refine (truth_any _ _).mono ?_; rintro e w' ⟨rfl, rfl⟩)
  go_ret
  exact ⟨rfl, rfl⟩
theorem add_is {a b r : Int} (h : Hid (wrap64 (a + b) = r)) (w : World) : Calls Tryd.prog 11 #[.int .i64 a, .int .i64 b] w fun e w' => e = .returned (.int .i64 r) ∧ w = w' := by
  have := add_any a b w
  rwa [h.out] at this
theorem mul_is {a b r : Int} (h : Hid (wrap64 (a * b) = r)) (w : World) : Calls Tryd.prog 14 #[.int .i64 a, .int .i64 b] w fun e w' => e = .returned (.int .i64 r) ∧ w = w' := by
  have := mul_any a b w
  rwa [h.out] at this
theorem less_is {a b r : Int} (h : Hid (one (decide (a < b)) = r)) (w : World) : Calls Tryd.prog 21 #[.int .i64 a, .int .i64 b] w fun e w' => e = .returned (.int .i64 r) ∧ w = w' := by
  have := less_any a b w
  rwa [h.out] at this
theorem same_is {a b r : Int} (h : Hid (one (a == b) = r)) (w : World) : Calls Tryd.prog 23 #[.int .i64 a, .int .i64 b] w fun e w' => e = .returned (.int .i64 r) ∧ w = w' := by
  have := same_any a b w
  rwa [h.out] at this
theorem sub_is {a b r : Int} (h : Hid (wrap64 (a - b) = r)) (w : World) : Calls Tryd.prog 10 #[.int .i64 a, .int .i64 b] w fun e w' => e = .returned (.int .i64 r) ∧ w = w' := by
  have := sub_any a b w
  rwa [h.out] at this
theorem neg_is {a r : Int} (h : Hid (wrap64 (-a) = r)) (w : World) : Calls Tryd.prog 12 #[.int .i64 a] w fun e w' => e = .returned (.int .i64 r) ∧ w = w' := by
  have := neg_any a w
  rwa [h.out] at this
theorem div_is {a b r : Int} (hb : ¬ b = 0) (h : Hid (wrap64 (a.tdiv b) = r)) (w : World) : Calls Tryd.prog 13 #[.int .i64 a, .int .i64 b] w fun e w' => e = .returned (.tuple #[.int .i64 r, .int .i64 0]) ∧ w = w' := by
  have := div_any a b hb w
  rwa [h.out] at this
theorem rem_is {a b r : Int} (hb : ¬ b = 0) (h : Hid (a.tmod b = r)) (w : World) : Calls Tryd.prog 9 #[.int .i64 a, .int .i64 b] w fun e w' => e = .returned (.tuple #[.int .i64 r, .int .i64 0]) ∧ w = w' := by
  have := rem_any a b hb w
  rwa [h.out] at this
theorem name_of (x : Int) : ∃ r, Hid (x = r) := ⟨x, Lib.hid rfl⟩
theorem prt_five : prt (-5) = ByteArray.mk #[45, 53] := by
  unfold prt
  rw [if_pos (by omega), show (-5 : Int).natAbs = 5 from rfl, dg_small (by omega)]
  rfl
theorem known_any (w : World) : Calls Tryd.prog 6 #[] w fun e w' => e = .returned (.bool true) ∧ Below w.heap.size w w' := by
  have hw : wrap64 (-3) = -3 := by unfold wrap64; omega
  go_enter Tryd.func6, Tryd.ntmps6
  go_wp2_with (first | (go_at_call 13; first | ((with_reducible refine (div_any (-7) 2 (by omega) _).mono ?_); rintro e w' ⟨rfl, rfl⟩) | ((with_reducible refine (div_zero 1 0 rfl _).mono ?_); rintro e w' ⟨rfl, rfl⟩)) | (go_at_call 9; (with_reducible refine (rem_any (-7) 2 (by omega) _).mono ?_); rintro e w' ⟨rfl, rfl⟩) | (go_at_call 7; (with_reducible refine (print_any (-5) (by omega) (by omega) _).mono ?_); rw [prt_five]; rintro e w' ⟨rfl, hb⟩))
  go_ret
  exact ⟨rfl, hb⟩
end Go.Proofs.YtngambelchmihaaDoor
