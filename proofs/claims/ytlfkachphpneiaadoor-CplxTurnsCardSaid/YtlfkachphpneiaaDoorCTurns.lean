/- CplxTurns: four quarter turns are none, two are the opposite; the norm stays. -/
import Derived.Test.YtlfkachphpneiaaDoorCDoor
import Derived.Test.YtlfkachphpneiaaDoorSquare
import Derived.OpenShut
namespace Go.Proofs.YtlfkachphpneiaaDoor
open Go.RowKit Go.Proofs.YtlfkachphpneiaaDoorW.PrintWords
attribute [local go_sem] unary_negf

theorem vi_zero : VI 0 0 := vi_int 0 (by decide)
theorem vi_one : VI 4607182418800017408 1 := by
  have := vi_int 1 (by decide)
  rwa [show Ieee.double.nearest (decide ((1 : Int) < 0)) (1 : Int).natAbs 0 = 4607182418800017408 by decide +kernel] at this
theorem turn_mul {a b : Nat} {x y : Int} (h : Hid (VC a b x y)) (b1 : x.natAbs ≤ 2147483648) (b2 : y.natAbs ≤ 2147483648) (w : World) :
    Calls Tryd.prog 15 #[.complex .f64 a b, .complex .f64 0 4607182418800017408] w (SomeW (-y) x w) := by
  have := wmul h (Lib.hid ⟨vi_zero, vi_one⟩ : Hid (VC 0 4607182418800017408 0 1)) 2147483648 1 (by decide) b1 b2 (by decide) (by decide) w
  refine SomeW.at this ?_ ?_ <;> omega
theorem opp_sub {a b : Nat} {x y : Int} (h : Hid (VC a b x y)) (b1 : x.natAbs ≤ 2147483648) (b2 : y.natAbs ≤ 2147483648) (w : World) :
    Calls Tryd.prog 16 #[.complex .f64 0 0, .complex .f64 a b] w (SomeW (-x) (-y) w) := by
  have := wsub (Lib.hid ⟨vi_zero, vi_zero⟩ : Hid (VC 0 0 0 0)) h (by omega) (by omega) w
  refine SomeW.at this ?_ ?_ <;> omega
set_option maxHeartbeats 4000000 in
theorem cturns_walk (a b : Int) (w0 : (Lit.int .i32 a).wf = true) (w1 : (Lit.int .i32 b).wf = true) (w : World) (hl : LaidC w) :
    Calls Tryd.prog 5 #[.int .i32 a, .int .i32 b] w fun e w' => e = .returned (.bool true) ∧ Below w.heap.size w w' := by
  obtain ⟨a1, a2⟩ := bounds_i32 w0
  obtain ⟨b1, b2⟩ := bounds_i32 w1
  clear w0 w1
  have H0 : Hid (VC (floatOfInt .f64 a) (floatOfInt .f64 b) a b) := Lib.hid ⟨vi_of_int a (by omega), vi_of_int b (by omega)⟩
  have HM : Hid (VC (Op.negFloat .f64 (floatOfInt .f64 b)) (floatOfInt .f64 a) (-b) a) := Lib.hid ⟨H0.out.2.negf, H0.out.1⟩
  go_enter Tryd.func5, Tryd.ntmps5
  go_wp2_with (first | (go_at_call 8; refine (known2_any _ hl).mono ?_; rintro e w1 ⟨rfl, hb1⟩) | (go_at_call 15; first | ((with_reducible refine (turn_mul H3 (by omega) (by omega) _).mono ?_); rintro e w2 ⟨p4, q4, n4, H4, rfl, rfl⟩; obtain ⟨f3, f4⟩ := vc_eq H4 H0 (by omega) (by omega)) | ((with_reducible refine (turn_mul H2 (by omega) (by omega) _).mono ?_); rintro e w2 ⟨p3, q3, n3, H3, rfl, rfl⟩) | ((with_reducible refine (turn_mul H1 (by omega) (by omega) _).mono ?_); rintro e w2 ⟨p2, q2, n2, H2, rfl, rfl⟩) | ((with_reducible refine (turn_mul H0 (by omega) (by omega) _).mono ?_); rintro e w2 ⟨p1, q1, n1, H1, rfl, rfl⟩; obtain ⟨f5, f6⟩ := vc_eq H1 HM rfl rfl)) | (go_at_call 16; (with_reducible refine (opp_sub H0 (by omega) (by omega) _).mono ?_); rintro e w2 ⟨p5, q5, n5, H5, rfl, rfl⟩; obtain ⟨f1, f2⟩ := vc_eq H2 H5 (by omega) (by omega)) | (go_at_call 17; first | ((with_reducible refine (cnorm_any p1 q1 _).mono ?_); rintro e w2 ⟨p6, n6, hN1, rfl, rfl⟩) | ((with_reducible refine (cnorm_any _ _ _).mono ?_); rintro e w2 ⟨p7, n7, hN2, rfl, rfl⟩; have f7 : FloatKind.f64.format.order p6 p7 = some .eq := by simpa using norm_turn H0.out.1 H0.out.2 H1.out.1 H1.out.2 hN2 hN1)))
  go_ret
  exact ⟨rfl, pw_below_drewN hb1 _⟩
end Go.Proofs.YtlfkachphpneiaaDoor
