/- NumBack: for every two integers, the call answers true. -/
import Derived.Test.YtngambelchmihaaDoorDoor1
import Derived.Test.YtngambelchmihaaDoorPlain1
import Derived.OpenShut
namespace Go.Proofs.YtngambelchmihaaDoor
open Go.RowKit Go.Proofs.YtngambelchmihaaDoorW.PrintWords

theorem tmod_small (a b : Int) (hb : ¬ b = 0) : (a.tmod b).natAbs < b.natAbs := by rw [Int.natAbs_tmod]; exact Nat.mod_lt _ (by omega)
theorem tmod_side (a b : Int) : (0 ≤ a → 0 ≤ a.tmod b) ∧ (a ≤ 0 → a.tmod b ≤ 0) := by
  refine ⟨fun h => Int.tmod_nonneg b h, fun h => ?_⟩
  have h2 := Int.tmod_nonneg (a := -a) b (by omega)
  rw [Int.neg_tmod] at h2
  omega
set_option maxHeartbeats 4000000 in
theorem back_zero (a b : Int) (hb : b = 0) (a1 : -9223372036854775808 ≤ a) (a2 : a ≤ 9223372036854775807) (w : World) (hl : Laid w) :
    Calls Tryd.prog 4 #[.int .i64 a, .int .i64 b] w fun e w' => e = .returned (.bool true) ∧ Below w.heap.size w w' := by
  subst hb
  have HP := Lib.hid (rd_prt a1 a2)
  have hs : (prt a).size ≤ 140737488351232 := prt_size a1 a2
  obtain ⟨p, A1⟩ := name_of (wrap64 (a + 0))
  have A2 : Hid (wrap64 (p - 0) = a) := Lib.hid (by rw [← A1.out, Int.sub_zero, wrap64_idem, Int.add_zero, wrap64_same a1 a2])
  obtain ⟨q, A3⟩ := name_of (wrap64 (-a))
  have A4 : Hid (wrap64 (a + q) = 0) := Lib.hid (by rw [← A3.out, wrap64_add_r, Int.add_right_neg, wrap64_same (by omega) (by omega)])
  go_enter Tryd.func4, Tryd.ntmps4
  go_wp2_with (first | (go_at_call 6; refine (known_any _).mono ?_; rintro e w1 ⟨rfl, hb1⟩) | (go_at_call 7; refine (print_any _ a1 a2 _).mono ?_; rintro e w2 ⟨rfl, hb2⟩) | (go_at_call 8; refine (parse_any _ hs _ ((hl.below hb1).below hb2)).mono ?_; rw [HP.out.1, HP.out.2]; rintro e w3 ⟨rfl, hb3⟩) | (go_at_call 11; first | ((with_reducible refine (add_is A1 _).mono ?_); rintro e w' ⟨rfl, rfl⟩) | ((with_reducible refine (add_is A4 _).mono ?_); rintro e w' ⟨rfl, rfl⟩)) | (go_at_call 10; refine (sub_is A2 _).mono ?_; rintro e w' ⟨rfl, rfl⟩) | (go_at_call 12; refine (neg_is A3 _).mono ?_; rintro e w' ⟨rfl, rfl⟩) | (go_at_call 13; refine (div_zero _ _ rfl _).mono ?_; rintro e w' ⟨rfl, rfl⟩) | (go_at_call 9; refine (rem_zero _ _ rfl _).mono ?_; rintro e w' ⟨rfl, rfl⟩))
  go_ret
  exact ⟨rfl, below_step (below_step hb1 hb2) hb3⟩
set_option maxHeartbeats 8000000 in
theorem back_any (a b : Int) (hb : ¬ b = 0) (a1 : -9223372036854775808 ≤ a) (a2 : a ≤ 9223372036854775807) (b1 : -9223372036854775808 ≤ b) (b2 : b ≤ 9223372036854775807) (w : World) (hl : Laid w) :
    Calls Tryd.prog 4 #[.int .i64 a, .int .i64 b] w fun e w' => e = .returned (.bool true) ∧ Below w.heap.size w w' := by
  have HP := Lib.hid (rd_prt a1 a2)
  have hs : (prt a).size ≤ 140737488351232 := prt_size a1 a2
  obtain ⟨p, A1⟩ := name_of (wrap64 (a + b))
  have A2 : Hid (wrap64 (p - b) = a) := Lib.hid (by rw [← A1.out, Int.sub_eq_add_neg, wrap64_add_l, Int.add_assoc, Int.add_right_neg, Int.add_zero, wrap64_same a1 a2])
  obtain ⟨q, A3⟩ := name_of (wrap64 (-a))
  have A4 : Hid (wrap64 (a + q) = 0) := Lib.hid (by rw [← A3.out, wrap64_add_r, Int.add_right_neg, wrap64_same (by omega) (by omega)])
  obtain ⟨x, A5⟩ := name_of (wrap64 (a.tdiv b))
  obtain ⟨r, A6⟩ := name_of (a.tmod b)
  obtain ⟨y, A7⟩ := name_of (wrap64 (x * b))
  have A8 : Hid (wrap64 (y + r) = a) := Lib.hid (by rw [← A7.out, ← A5.out, ← A6.out, wrap64_add_l, ← wrap64_add_l, wrap64_mul_l, wrap64_add_l, Int.tdiv_mul_add_tmod, wrap64_same a1 a2])
  have hsm := tmod_small a b hb
  obtain ⟨s1, s2⟩ := tmod_side a b
  rw [A6.out] at hsm s1 s2
  have hb0 : (b == 0) = false := by simpa using hb
  rcases Int.lt_trichotomy r 0 with hr | hr | hr <;> rcases Int.lt_or_gt_of_ne hb with hbs | hbs
  all_goals
    have r1 : -b < r ∨ b < r := by omega
    have r2 : -9223372036854775808 < r ∧ r ≤ 9223372036854775807 := by omega
    obtain ⟨r3, r4⟩ := r2
  all_goals (try subst hr)
  all_goals (try have ha0 : a < 0 := by omega)
  all_goals (try have ha0 : 0 ≤ a := by omega)
  all_goals (clear s1 s2)
  all_goals
    go_enter Tryd.func4, Tryd.ntmps4
    go_wp2_with (first | (go_at_call 6; refine (known_any _).mono ?_; rintro e w1 ⟨rfl, hb1⟩) | (go_at_call 7; refine (print_any _ a1 a2 _).mono ?_; rintro e w2 ⟨rfl, hb2⟩) | (go_at_call 8; refine (parse_any _ hs _ ((hl.below hb1).below hb2)).mono ?_; rw [HP.out.1, HP.out.2]; rintro e w3 ⟨rfl, hb3⟩) | (go_at_call 11; first | ((with_reducible refine (add_is A1 _).mono ?_); rintro e w' ⟨rfl, rfl⟩) | ((with_reducible refine (add_is A4 _).mono ?_); rintro e w' ⟨rfl, rfl⟩) | ((with_reducible refine (add_is A8 _).mono ?_); rintro e w' ⟨rfl, rfl⟩)) | (go_at_call 10; refine (sub_is A2 _).mono ?_; rintro e w' ⟨rfl, rfl⟩) | (go_at_call 14; refine (mul_is A7 _).mono ?_; rintro e w' ⟨rfl, rfl⟩) | (go_at_call 12; refine (neg_is A3 _).mono ?_; rintro e w' ⟨rfl, rfl⟩) | (go_at_call 13; refine (div_is hb A5 _).mono ?_; rintro e w' ⟨rfl, rfl⟩) | (go_at_call 9; refine (rem_is hb A6 _).mono ?_; rintro e w' ⟨rfl, rfl⟩))
    go_ret
    refine ⟨?_, below_step (below_step hb1 hb2) hb3⟩
    first
      | rfl
      | (show Ending.returned (.bool (r == 0 || decide (r < 0) == decide (a < 0))) = _; rw [decide_eq_false (by omega : ¬ r < 0), decide_eq_false (by omega : ¬ a < 0)]; simp)
theorem back_walk (a b : Int) (w0 : (Lit.int .i64 a).wf = true) (w1 : (Lit.int .i64 b).wf = true) (w : World) (hl : Laid w) :
    Calls Tryd.prog 4 #[.int .i64 a, .int .i64 b] w fun e w' => e = .returned (.bool true) ∧ Below w.heap.size w w' := by
  obtain ⟨a1, a2⟩ := bounds_i64 w0
  obtain ⟨b1, b2⟩ := bounds_i64 w1
  by_cases hb : b = 0
  · exact back_zero a b hb a1 a2 w hl
  · exact back_any a b hb a1 a2 b1 b2 w hl
end Go.Proofs.YtngambelchmihaaDoor
