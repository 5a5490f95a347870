/- What the statements on complex numbers know beforehand. -/
import Derived.Test.YtlfkachphpneiaaDoorCRef
namespace Go.Proofs.YtlfkachphpneiaaDoor
open Go.RowKit Go.Proofs.YtlfkachphpneiaaDoorW.PrintWords
attribute [local go_sem] run_tobits run_frombits

/-- The word of 1, of -1. -/
abbrev oneF : Nat := 4607182418800017408
abbrev negF : Nat := 13830554455654793216
abbrev nzF : Nat := 9223372036854775808
theorem gives_of {r : Option Nat} {p q : Nat} (h : Gives r p) (hr : r = some q) : p = q := by
  rcases h.2 with h' | ⟨h', _⟩
  · rw [hr] at h'; exact (Option.some.inj h').symm
  · rw [hr] at h'; cases h'
theorem mul_ii {p q : Nat} (h : MulR 0 oneF 0 oneF p q) : p = negF ∧ q = 0 := by
  obtain ⟨i, j, k, l, h1, h2, h3, h4, h5, h6⟩ := h
  have e1 := gives_of h1 (show floatBits .mul .f64 0 0 = some 0 by decide +kernel)
  have e2 := gives_of h2 (show floatBits .mul .f64 oneF oneF = some oneF by decide +kernel)
  have e3 := gives_of h3 (show floatBits .mul .f64 0 oneF = some 0 by decide +kernel)
  have e4 := gives_of h4 (show floatBits .mul .f64 oneF 0 = some 0 by decide +kernel)
  subst e1 e2 e3 e4
  exact ⟨gives_of h5 (show floatBits .sub .f64 0 oneF = some negF by decide +kernel), gives_of h6 (show floatBits .add .f64 0 0 = some 0 by decide +kernel)⟩
theorem copysign_any (w : World) : Calls Tryd.prog 30 #[.float .f64 0, .float .f64 negF] w fun e w' => e = .returned (.float .f64 nzF) ∧ w = w' := by
  have e1 : bits BinOp.andNot IntKind.u64 0 9223372036854775808 = 0 := by decide +kernel
  have e2 : bits BinOp.and IntKind.u64 13830554455654793216 9223372036854775808 = 9223372036854775808 := by decide +kernel
  have e3 : bits BinOp.or IntKind.u64 0 9223372036854775808 = 9223372036854775808 := by decide +kernel
  go_enter Tryd.func30, Tryd.ntmps30
  go_wp2
  go_ret
  exact ⟨rfl, rfl⟩
theorem cparse_no {s : ByteArray} (h : Hid (cw s = none)) (w : World) (hl : LaidC w) : Calls Tryd.prog 11 #[.string s] w fun e w' => e = .returned (.tuple #[.complex .f64 0 0, .int .i64 20]) ∧ Below w.heap.size w w' := by
  have := cparse_any s w hl
  rwa [h.out] at this
theorem cparse_yes {s : ByteArray} {x y : Nat} (h : Hid (cw s = some (x, y))) (w : World) (hl : LaidC w) : Calls Tryd.prog 11 #[.string s] w fun e w' => e = .returned (.tuple #[.complex .f64 x y, .int .i64 0]) ∧ Below w.heap.size w w' := by
  have := cparse_any s w hl
  rwa [h.out] at this
theorem rcparse_no {s : ByteArray} (h : Hid (cw s = none)) (w : World) : Calls Tryd.prog 20 #[.string s] w (SomeP (.tuple #[.complex .f64 0 0, .int .i64 20]) w) := by
  have := rcparse_any s w
  rwa [h.out] at this
theorem rcparse_yes {s : ByteArray} {x y : Nat} (h : Hid (cw s = some (x, y))) (w : World) : Calls Tryd.prog 20 #[.string s] w (SomeP (.tuple #[.complex .f64 x y, .int .i64 0]) w) := by
  have := rcparse_any s w
  rwa [h.out] at this
set_option maxHeartbeats 2000000 in
theorem known2_any (w : World) (hl : LaidC w) : Calls Tryd.prog 8 #[] w fun e w' => e = .returned (.bool true) ∧ Below w.heap.size w w' := by
  have hc : Hid (cw (ByteArray.mk #[99, 48, 48]) = none) := Lib.hid (by unfold cw; rw [if_neg (by decide)])
  have a1 : (alk negF negF && alk 0 0) = true := by decide +kernel
  have a3 : (alk 0 nzF && alk 0 0) = false := by decide +kernel
  have z1 : (strOfNums (ctx 0 oneF)).size = 33 := ctx_size _ _
  go_enter Tryd.func8, Tryd.ntmps8
  go_wp2_with (first | (go_at_call 11; refine (cparse_no hc _ hl).mono ?_; rintro e w1 ⟨rfl, hb1⟩) | (go_at_call 15; refine (cmul_any _ _ _ _ _).mono ?_; rintro e w2 ⟨p, q, n, hR, rfl, rfl⟩; obtain ⟨rfl, rfl⟩ := mul_ii hR) | (go_at_call 30; refine (copysign_any _).mono ?_; rintro e w2 ⟨rfl, rfl⟩) | (go_at_call 13; first | ((with_reducible refine (same_any negF 0 negF 0 _).mono ?_); rw [a1]; rintro e w2 ⟨rfl, rfl⟩) | ((with_reducible refine (same_any 0 0 nzF 0 _).mono ?_); rw [a3]; rintro e w2 ⟨rfl, rfl⟩)) | (go_at_call 9; refine (cprint_any 0 oneF (by decide) (by decide) _ (hl.below (pw_below_drewN hb1 _)).2).mono ?_; rintro e w3 ⟨rfl, hb3⟩))
  go_ret
  exact ⟨rfl, below_step (pw_below_drewN hb1 _) hb3⟩
end Go.Proofs.YtlfkachphpneiaaDoor
