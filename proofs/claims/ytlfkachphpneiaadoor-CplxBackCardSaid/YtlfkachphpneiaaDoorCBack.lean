/- CplxBack: what is printed is read as the same bits; conjugated twice it is itself. -/
import Derived.Test.YtlfkachphpneiaaDoorCDoor
import Derived.OpenShut
import Derived.Laws.BitsAllLaws
namespace Go.Proofs.YtlfkachphpneiaaDoor
open Go.RowKit Go.Proofs.YtlfkachphpneiaaDoorW.PrintWords
attribute [local go_sem] run_tobits run_frombits

theorem drawn_below {w w1 : World} (h : Below w.heap.size w w1) (n : Nat) : Below w.heap.size w (w1.drewN n) := pw_below_drewN h n
theorem same_is {a b c d : Nat} {r : Bool} (h : Hid ((alk a c && alk b d) = r)) (w : World) : Calls Tryd.prog 13 #[.complex .f64 a b, .complex .f64 c d] w fun e w' => e = .returned (.bool r) ∧ w = w' := by
  have := same_any a b c d w
  rwa [h.out] at this
theorem turn_eq {b : Nat} (hb : b < 18446744073709551616) : turn b = b ^^^ 9223372036854775808 := by
  unfold turn
  rw [show (9223372036854775808 : Int) = ((9223372036854775808 : Nat) : Int) from rfl, u64_xor_nat b 9223372036854775808 hb (by decide)]
  rfl
theorem turn_turn {b : Nat} (hb : b < 18446744073709551616) : turn (turn b) = b := by
  have h : b ^^^ 9223372036854775808 < 18446744073709551616 := Nat.xor_lt_two_pow (n := 64) hb (by decide)
  rw [turn_eq hb, turn_eq h, Nat.xor_assoc, Nat.xor_self, Nat.xor_zero]
theorem turn_nat {b : Nat} (hb : b < 18446744073709551616) : bits BinOp.xor IntKind.u64 (b : Int) 9223372036854775808 = (turn b : Int) := by
  rw [turn_eq hb, show (9223372036854775808 : Int) = ((9223372036854775808 : Nat) : Int) from rfl, u64_xor_nat b 9223372036854775808 hb (by decide)]
set_option maxHeartbeats 4000000 in
theorem cback_walk (a b : Int) (w0 : (Lit.int .u64 a).wf = true) (w1 : (Lit.int .u64 b).wf = true) (w : World) (hl : LaidC w) :
    Calls Tryd.prog 4 #[.int .u64 a, .int .u64 b] w fun e w' => e = .returned (.bool true) ∧ Below w.heap.size w w' := by
  obtain ⟨a1, a2⟩ := bounds_u64 w0
  obtain ⟨b1, b2⟩ := bounds_u64 w1
  obtain ⟨x, rfl⟩ := Int.eq_ofNat_of_zero_le a1
  obtain ⟨y, rfl⟩ := Int.eq_ofNat_of_zero_le b1
  have hx : x < 18446744073709551616 := by omega
  have hy : y < 18446744073709551616 := by omega
  clear w0 w1 a1 a2 b1 b2
  have HC := Lib.hid (cw_ok hx hy)
  have HS : Hid ((alk x x && alk (turn (turn y)) y) = true) := Lib.hid (by rw [turn_turn hy]; simp [alk])
  have ex := order_self x
  have ey := order_self y
  have et := turn_nat hy
  rcases hnx : nan x with _ | _ <;> rcases hny : nan y with _ | _
  all_goals
    rw [hnx] at ex
    rw [hny] at ey
    clear hnx hny
    simp only [Bool.not_false, Bool.not_true] at ex ey
    go_enter Tryd.func4, Tryd.ntmps4
    go_wp2_with (first | (go_at_call 8; refine (known2_any _ hl).mono ?_; rintro e w1 ⟨rfl, hb1⟩) | (go_at_call 11; (with_reducible refine (cparse_yes HC _ ?_).mono ?_); exact hl.below (below_step hb1 hb2); rintro e w3 ⟨rfl, hb3⟩) | (go_at_call 9; refine (cprint_any _ _ hx hy _ ?_).mono ?_; exact (hl.below hb1).2; rintro e w2 ⟨rfl, hb2⟩) | (go_at_call 14; refine (cconj_any _ _ _).mono ?_; rintro e w4 ⟨rfl, rfl⟩) | (go_at_call 13; refine (same_is HS _).mono ?_; rintro e w4 ⟨rfl, rfl⟩))
    go_ret
    first
      | exact ⟨rfl, hb1⟩
      | exact ⟨rfl, below_step (below_step hb1 hb2) hb3⟩
end Go.Proofs.YtlfkachphpneiaaDoor
