/- NumTells: for every two integers and every text, the call answers true. -/
import Derived.Test.YtngambelchmihaaDoorRef1P
import Derived.Test.YtngambelchmihaaDoorDoor1
namespace Go.Proofs.YtngambelchmihaaDoor
open Go.RowKit Go.Proofs.YtngambelchmihaaDoorW.PrintWords

theorem radd_is {a b r : Int} (h : Hid (wrap64 (a + b) = r)) (w : World) : Calls Tryd.prog 18 #[.int .i64 a, .int .i64 b] w fun e w' => e = .returned (.int .i64 r) ∧ w = w' := by
  have e : wrap64 (IntKind.u64.wrap (IntKind.u64.wrap a + IntKind.u64.wrap b)) = r := by
    rw [← h.out, wrap_u64, u64_wrap, u64_wrap]
    apply wrap64_congr
    rw [← Int.add_emod]
  have : Calls Tryd.prog 18 #[.int .i64 a, .int .i64 b] w fun e w' => e = .returned (.int .i64 (wrap64 (IntKind.u64.wrap (IntKind.u64.wrap a + IntKind.u64.wrap b)))) ∧ w = w' := by
    clear e h
    go_enter Tryd.func18, Tryd.ntmps18
    go_wp2
    go_ret
    exact ⟨rfl, rfl⟩
  rwa [e] at this
theorem rmul_is {a b r : Int} (h : Hid (wrap64 (a * b) = r)) (w : World) : Calls Tryd.prog 20 #[.int .i64 a, .int .i64 b] w fun e w' => e = .returned (.int .i64 r) ∧ w = w' := by
  have e : wrap64 (IntKind.u64.wrap (IntKind.u64.wrap a * IntKind.u64.wrap b)) = r := by
    rw [← h.out, wrap_u64, u64_wrap, u64_wrap]
    apply wrap64_congr
    rw [← Int.mul_emod]
  have : Calls Tryd.prog 20 #[.int .i64 a, .int .i64 b] w fun e w' => e = .returned (.int .i64 (wrap64 (IntKind.u64.wrap (IntKind.u64.wrap a * IntKind.u64.wrap b)))) ∧ w = w' := by
    clear e h
    go_enter Tryd.func20, Tryd.ntmps20
    go_wp2
    go_ret
    exact ⟨rfl, rfl⟩
  rwa [e] at this
theorem rdiv_zero (a b : Int) (h : b = 0) (w : World) : Calls Tryd.prog 15 #[.int .i64 a, .int .i64 b] w fun e w' => e = .returned (.tuple #[.int .i64 0, .int .i64 10]) ∧ w = w' := by
  subst h
  go_enter Tryd.func15, Tryd.ntmps15
  go_wp2
  go_ret2
  exact ⟨rfl, rfl⟩
theorem rdiv_is {a b r : Int} (hb : ¬ b = 0) (h : Hid (wrap64 (a.tdiv b) = r)) (w : World) : Calls Tryd.prog 15 #[.int .i64 a, .int .i64 b] w fun e w' => e = .returned (.tuple #[.int .i64 r, .int .i64 0]) ∧ w = w' := by
  have h0 : (b == 0) = false := by simpa using hb
  by_cases h1 : b = -1
  · subst h1
    have h2 : Hid (wrap64 (0 - a) = r) := Lib.hid (by rw [← h.out, Int.tdiv_neg, Int.tdiv_one, Int.zero_sub])
    go_enter Tryd.func15, Tryd.ntmps15
    go_wp2_with (go_at_call 19; refine (rsub_is h2 _).mono ?_; rintro e w' ⟨rfl, rfl⟩)
    go_ret2
    exact ⟨rfl, rfl⟩
  · have h2 : (b == -1) = false := by simpa using h1
    go_enter Tryd.func15, Tryd.ntmps15
    go_wp2
    go_ret2
    exact ⟨by rw [← h.out]; rfl, rfl⟩
theorem rrem_zero (a b : Int) (h : b = 0) (w : World) : Calls Tryd.prog 16 #[.int .i64 a, .int .i64 b] w fun e w' => e = .returned (.tuple #[.int .i64 0, .int .i64 10]) ∧ w = w' := by
  subst h
  go_enter Tryd.func16, Tryd.ntmps16
  go_wp2
  go_ret2
  exact ⟨rfl, rfl⟩
theorem rrem_is {a b r : Int} (hb : ¬ b = 0) (h : Hid (a.tmod b = r)) (w : World) : Calls Tryd.prog 16 #[.int .i64 a, .int .i64 b] w fun e w' => e = .returned (.tuple #[.int .i64 r, .int .i64 0]) ∧ w = w' := by
  have h0 : (b == 0) = false := by simpa using hb
  by_cases h1 : b = -1
  · subst h1
    have h2 : r = 0 := by rw [← h.out, Int.tmod_neg, Int.tmod_one]
    subst h2
    clear h
    go_enter Tryd.func16, Tryd.ntmps16
    go_wp2
    go_ret2
    exact ⟨rfl, rfl⟩
  · have h2 : (b == -1) = false := by simpa using h1
    have h3 := h.out
    go_enter Tryd.func16, Tryd.ntmps16
    go_wp2
    go_ret2
    exact ⟨rfl, rfl⟩
theorem rtruth_is {c : Bool} {r : Int} (h : Hid (one c = r)) (w : World) : Calls Tryd.prog 22 #[.bool c] w fun e w' => e = .returned (.int .i64 r) ∧ w = w' := by
  have h := h.out
  subst h
  cases c
  all_goals
    go_enter Tryd.func22, Tryd.ntmps22
    go_wp2
    go_ret
    exact ⟨rfl, rfl⟩
set_option maxHeartbeats 8000000 in
theorem tells_walk (a b : Int) (s : ByteArray) (w0 : (Lit.int .i64 a).wf = true) (w1 : (Lit.int .i64 b).wf = true) (hs : s.size ≤ 140737488351232) (w : World) (hl : Laid w) :
    Calls Tryd.prog 5 #[.int .i64 a, .int .i64 b, .string s] w fun e w' => e = .returned (.bool true) ∧ Below w.heap.size w w' := by
  obtain ⟨a1, a2⟩ := bounds_i64 w0
  obtain ⟨b1, b2⟩ := bounds_i64 w1
  by_cases hlong : 100 < s.size
  · go_enter Tryd.func5, Tryd.ntmps5
    go_wp2_with (first | (go_at_call 6; refine (known_any _).mono ?_; rintro e w1 ⟨rfl, hb1⟩))
    go_ret
    exact ⟨rfl, hb1⟩
  obtain ⟨x1, A1⟩ := name_of (wrap64 (a + b))
  obtain ⟨x2, A2⟩ := name_of (wrap64 (a - b))
  obtain ⟨x3, A3⟩ := name_of (wrap64 (a * b))
  obtain ⟨x4, A4⟩ := name_of (wrap64 (-a))
  have A5 : Hid (wrap64 (0 - a) = x4) := Lib.hid (by rw [← A4.out, Int.zero_sub])
  obtain ⟨k1, A6⟩ := name_of (one (decide (a < b)))
  obtain ⟨k2, A7⟩ := name_of (one (a == b))
  by_cases hb : b = 0
  · have hb0 := Lib.hid hb
    clear hb
    go_enter Tryd.func5, Tryd.ntmps5
    go_wp2_with (first | (go_at_call 6; refine (known_any _).mono ?_; rintro e w1 ⟨rfl, hb1⟩) | (go_at_call 13; refine (div_zero _ _ hb0.out _).mono ?_; rintro e w' ⟨rfl, rfl⟩) | (go_at_call 9; refine (rem_zero _ _ hb0.out _).mono ?_; rintro e w' ⟨rfl, rfl⟩) | (go_at_call 15; refine (rdiv_zero _ _ hb0.out _).mono ?_; rintro e w' ⟨rfl, rfl⟩) | (go_at_call 16; refine (rrem_zero _ _ hb0.out _).mono ?_; rintro e w' ⟨rfl, rfl⟩) | (go_at_call 8; refine (parse_any _ hs _ (hl.below hb1)).mono ?_; rintro e w2 ⟨rfl, hb2⟩) | (go_at_call 17; refine (rparse_any _ hs _).mono ?_; rintro e w3 ⟨rfl, hb3⟩) | (go_at_call 11; refine (add_is A1 _).mono ?_; rintro e w' ⟨rfl, rfl⟩) | (go_at_call 10; refine (sub_is A2 _).mono ?_; rintro e w' ⟨rfl, rfl⟩) | (go_at_call 14; refine (mul_is A3 _).mono ?_; rintro e w' ⟨rfl, rfl⟩) | (go_at_call 12; refine (neg_is A4 _).mono ?_; rintro e w' ⟨rfl, rfl⟩) | (go_at_call 18; refine (radd_is A1 _).mono ?_; rintro e w' ⟨rfl, rfl⟩) | (go_at_call 19; first | ((with_reducible refine (rsub_is A2 _).mono ?_); rintro e w' ⟨rfl, rfl⟩) | ((with_reducible refine (rsub_is A5 _).mono ?_); rintro e w' ⟨rfl, rfl⟩)) | (go_at_call 20; refine (rmul_is A3 _).mono ?_; rintro e w' ⟨rfl, rfl⟩) | (go_at_call 21; refine (less_is A6 _).mono ?_; rintro e w' ⟨rfl, rfl⟩) | (go_at_call 23; refine (same_is A7 _).mono ?_; rintro e w' ⟨rfl, rfl⟩) | (go_at_call 22; first | ((with_reducible refine (rtruth_is A6 _).mono ?_); rintro e w' ⟨rfl, rfl⟩) | ((with_reducible refine (rtruth_is A7 _).mono ?_); rintro e w' ⟨rfl, rfl⟩)) | (go_at_call 7; refine (print_any _ a1 a2 _).mono ?_; rintro e w4 ⟨rfl, hb4⟩) | (go_at_call 24; refine (rprint_any _ a1 a2 _).mono ?_; rintro e w5 ⟨rfl, hb5⟩))
    go_ret
    exact ⟨rfl, below_step (below_step (below_step (below_step hb1 hb2) hb3) hb4) hb5⟩
  · obtain ⟨q, B1⟩ := name_of (wrap64 (a.tdiv b))
    obtain ⟨r, B2⟩ := name_of (a.tmod b)
    have hb0 := Lib.hid hb
    clear hb
    go_enter Tryd.func5, Tryd.ntmps5
    go_wp2_with (first | (go_at_call 6; refine (known_any _).mono ?_; rintro e w1 ⟨rfl, hb1⟩) | (go_at_call 13; refine (div_is hb0.out B1 _).mono ?_; rintro e w' ⟨rfl, rfl⟩) | (go_at_call 9; refine (rem_is hb0.out B2 _).mono ?_; rintro e w' ⟨rfl, rfl⟩) | (go_at_call 15; refine (rdiv_is hb0.out B1 _).mono ?_; rintro e w' ⟨rfl, rfl⟩) | (go_at_call 16; refine (rrem_is hb0.out B2 _).mono ?_; rintro e w' ⟨rfl, rfl⟩) | (go_at_call 8; refine (parse_any _ hs _ (hl.below hb1)).mono ?_; rintro e w2 ⟨rfl, hb2⟩) | (go_at_call 17; refine (rparse_any _ hs _).mono ?_; rintro e w3 ⟨rfl, hb3⟩) | (go_at_call 11; refine (add_is A1 _).mono ?_; rintro e w' ⟨rfl, rfl⟩) | (go_at_call 10; refine (sub_is A2 _).mono ?_; rintro e w' ⟨rfl, rfl⟩) | (go_at_call 14; refine (mul_is A3 _).mono ?_; rintro e w' ⟨rfl, rfl⟩) | (go_at_call 12; refine (neg_is A4 _).mono ?_; rintro e w' ⟨rfl, rfl⟩) | (go_at_call 18; refine (radd_is A1 _).mono ?_; rintro e w' ⟨rfl, rfl⟩) | (go_at_call 19; first | ((with_reducible refine (rsub_is A2 _).mono ?_); rintro e w' ⟨rfl, rfl⟩) | ((with_reducible refine (rsub_is A5 _).mono ?_); rintro e w' ⟨rfl, rfl⟩)) | (go_at_call 20; refine (rmul_is A3 _).mono ?_; rintro e w' ⟨rfl, rfl⟩) | (go_at_call 21; refine (less_is A6 _).mono ?_; rintro e w' ⟨rfl, rfl⟩) | (go_at_call 23; refine (same_is A7 _).mono ?_; rintro e w' ⟨rfl, rfl⟩) | (go_at_call 22; first | ((with_reducible refine (rtruth_is A6 _).mono ?_); rintro e w' ⟨rfl, rfl⟩) | ((with_reducible refine (rtruth_is A7 _).mono ?_); rintro e w' ⟨rfl, rfl⟩)) | (go_at_call 7; refine (print_any _ a1 a2 _).mono ?_; rintro e w4 ⟨rfl, hb4⟩) | (go_at_call 24; refine (rprint_any _ a1 a2 _).mono ?_; rintro e w5 ⟨rfl, hb5⟩))
    go_ret
    exact ⟨rfl, below_step (below_step (below_step (below_step hb1 hb2) hb3) hb4) hb5⟩
end Go.Proofs.YtngambelchmihaaDoor
