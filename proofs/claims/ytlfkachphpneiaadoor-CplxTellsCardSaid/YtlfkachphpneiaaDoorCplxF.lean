/- The walks of complex arithmetic, the program's and the reference's. -/
import Derived.Test.YtlfkachphpneiaaDoorChecked
import Derived.Test.YtlfkachphpneiaaDoorFloat
import Derived.Test.YtlfkachphpneiaaDoorWWords
import Derived.WalkLawsBesides
import Derived.Outline
import Derived.Lib.Hide
namespace Go.Proofs.YtlfkachphpneiaaDoor
open Go.RowKit Go.Proofs.YtlfkachphpneiaaDoorW.PrintWords
attribute [local go_sem] run_fadd run_fsub run_fmul

/-- A call hands back a complex number of which something is known; it has drawn, no more. -/
def SomeC (R : Nat → Nat → Prop) (w : World) (e : Ending) (w' : World) : Prop := ∃ p q n, R p q ∧ e = .returned (.complex .f64 p q) ∧ w' = w.drewN n
def AddR (a b c d p q : Nat) : Prop := Gives (floatBits .add .f64 a c) p ∧ Gives (floatBits .add .f64 b d) q
def SubR (a b c d p q : Nat) : Prop := Gives (floatBits .sub .f64 a c) p ∧ Gives (floatBits .sub .f64 b d) q
def MulR (a b c d p q : Nat) : Prop := ∃ i j k l, Gives (floatBits .mul .f64 a c) i ∧ Gives (floatBits .mul .f64 b d) j ∧ Gives (floatBits .mul .f64 a d) k ∧ Gives (floatBits .mul .f64 b c) l ∧ Gives (floatBits .sub .f64 i j) p ∧ Gives (floatBits .add .f64 k l) q
def NormR (a b r : Nat) : Prop := ∃ i j, Gives (floatBits .mul .f64 a a) i ∧ Gives (floatBits .mul .f64 b b) j ∧ Gives (floatBits .add .f64 i j) r
/-- The same of a float. -/
def SomeF (R : Nat → Prop) (w : World) (e : Ending) (w' : World) : Prop := ∃ p n, R p ∧ e = .returned (.float .f64 p) ∧ w' = w.drewN n
theorem cadd_any (a b c d : Nat) (w : World) : Calls Tryd.prog 22 #[.complex .f64 a b, .complex .f64 c d] w (SomeC (AddR a b c d) w) := by
  go_enter Tryd.func22, Tryd.ntmps22
  go_wp2
  go_ret
  exact ⟨_, _, _, ⟨fv_gives _ _ _ _, fv_gives _ _ _ _⟩, rfl, rfl⟩
theorem csub_any (a b c d : Nat) (w : World) : Calls Tryd.prog 16 #[.complex .f64 a b, .complex .f64 c d] w (SomeC (SubR a b c d) w) := by
  go_enter Tryd.func16, Tryd.ntmps16
  go_wp2
  go_ret
  exact ⟨_, _, _, ⟨fv_gives _ _ _ _, fv_gives _ _ _ _⟩, rfl, rfl⟩
theorem cmul_any (a b c d : Nat) (w : World) : Calls Tryd.prog 15 #[.complex .f64 a b, .complex .f64 c d] w (SomeC (MulR a b c d) w) := by
  go_enter Tryd.func15, Tryd.ntmps15
  go_wp2
  go_ret
  exact ⟨_, _, _, ⟨_, _, _, _, fv_gives _ _ _ _, fv_gives _ _ _ _, fv_gives _ _ _ _, fv_gives _ _ _ _, fv_gives _ _ _ _, fv_gives _ _ _ _⟩, rfl, rfl⟩
theorem cnorm_any (a b : Nat) (w : World) : Calls Tryd.prog 17 #[.complex .f64 a b] w (SomeF (NormR a b) w) := by
  go_enter Tryd.func17, Tryd.ntmps17
  go_wp2
  go_ret
  exact ⟨_, _, ⟨_, _, fv_gives _ _ _ _, fv_gives _ _ _ _, fv_gives _ _ _ _⟩, rfl, rfl⟩
theorem radd_any (a b c d : Nat) (w : World) : Calls Tryd.prog 23 #[.complex .f64 a b, .complex .f64 c d] w (SomeC (AddR a b c d) w) := by
  go_enter Tryd.func23, Tryd.ntmps23
  go_wp2
  go_ret
  exact ⟨_, _, _, ⟨fv_gives _ _ _ _, fv_gives _ _ _ _⟩, rfl, rfl⟩
theorem rsub_any (a b c d : Nat) (w : World) : Calls Tryd.prog 24 #[.complex .f64 a b, .complex .f64 c d] w (SomeC (SubR a b c d) w) := by
  go_enter Tryd.func24, Tryd.ntmps24
  go_wp2
  go_ret
  exact ⟨_, _, _, ⟨fv_gives _ _ _ _, fv_gives _ _ _ _⟩, rfl, rfl⟩
theorem rmul_any (a b c d : Nat) (w : World) : Calls Tryd.prog 25 #[.complex .f64 a b, .complex .f64 c d] w (SomeC (MulR a b c d) w) := by
  go_enter Tryd.func25, Tryd.ntmps25
  go_wp2
  go_ret
  exact ⟨_, _, _, ⟨_, _, _, _, fv_gives _ _ _ _, fv_gives _ _ _ _, fv_gives _ _ _ _, fv_gives _ _ _ _, fv_gives _ _ _ _, fv_gives _ _ _ _⟩, rfl, rfl⟩
theorem rnorm_any (a b : Nat) (w : World) : Calls Tryd.prog 19 #[.complex .f64 a b] w (SomeF (NormR a b) w) := by
  go_enter Tryd.func19, Tryd.ntmps19
  go_wp2
  go_ret
  exact ⟨_, _, ⟨_, _, fv_gives _ _ _ _, fv_gives _ _ _ _, fv_gives _ _ _ _⟩, rfl, rfl⟩
theorem run_tobits (b : Nat) (w : World) : (callFunc 12 #[.float .f64 b]).run Tryd.prog w = .ok (.value (.int .u64 (b : Int))) w := by kernel_rfl
theorem run_frombits (n : Int) (w : World) : (callFunc 10 #[.int .u64 n]).run Tryd.prog w = .ok (.value (.float .f64 n.toNat)) w := by kernel_rfl
attribute [local go_sem] run_tobits run_frombits
theorem isnan_any (b : Nat) (w : World) : Calls Tryd.prog 43 #[.float .f64 b] w fun e w' => e = .returned (.bool (nan b)) ∧ w = w' := by
  have h := order_self b
  go_enter Tryd.func43, Tryd.ntmps43
  go_wp2
  go_ret
  refine ⟨?_, rfl⟩
  show Ending.returned (.bool (FloatKind.f64.format.order b b != some Ordering.eq)) = _
  rw [bne, h, Bool.not_not]
/-- The sign turned. -/
def turn (b : Nat) : Nat := (bits BinOp.xor IntKind.u64 (b : Int) 9223372036854775808).toNat
theorem cconj_any (a b : Nat) (w : World) : Calls Tryd.prog 14 #[.complex .f64 a b] w fun e w' => e = .returned (.complex .f64 a (turn b)) ∧ w = w' := by
  go_enter Tryd.func14, Tryd.ntmps14
  go_wp2
  go_ret
  exact ⟨rfl, rfl⟩
theorem rconj_any (a b : Nat) (w : World) : Calls Tryd.prog 28 #[.complex .f64 a b] w fun e w' => e = .returned (.complex .f64 a (turn b)) ∧ w = w' := by
  go_enter Tryd.func28, Tryd.ntmps28
  go_wp2
  go_ret
  exact ⟨rfl, rfl⟩
theorem rof_any (a b : Int) (w : World) : Calls Tryd.prog 18 #[.int .u64 a, .int .u64 b] w fun e w' => e = .returned (.complex .f64 a.toNat b.toNat) ∧ w = w' := by
  go_enter Tryd.func18, Tryd.ntmps18
  go_wp2
  go_ret
  exact ⟨rfl, rfl⟩
theorem rbits_any (a b : Nat) (w : World) : Calls Tryd.prog 37 #[.complex .f64 a b] w fun e w' => e = .returned (.tuple #[.int .u64 (a : Int), .int .u64 (b : Int)]) ∧ w = w' := by
  go_enter Tryd.func37, Tryd.ntmps37
  go_wp2
  go_ret2
  exact ⟨rfl, rfl⟩
/-- Alike: the same bits, or NaNs both. -/
def alk (p q : Nat) : Bool := (p == q) || (nan p && nan q)
theorem alk_iff {p q : Nat} : alk p q = true ↔ AlikeB p q := by unfold alk AlikeB; simp
theorem alike_any (p q : Nat) (w : World) : Calls Tryd.prog 34 #[.float .f64 p, .float .f64 q] w fun e w' => e = .returned (.bool (alk p q)) ∧ w = w' := by
  by_cases h : p = q
  · subst h
    go_enter Tryd.func34, Tryd.ntmps34
    go_wp2
    go_ret
    exact ⟨by simp [alk], rfl⟩
  · have h1 : ((p : Int) == (q : Int)) = false := by rw [beq_eq_false_iff_ne]; omega
    have H := Lib.hid h
    clear h
    cases hn : nan p with
    | true =>
      go_enter Tryd.func34, Tryd.ntmps34
      go_wp2_with (first | (go_at_call 43; first | ((with_reducible refine (isnan_any p _).mono ?_); rintro e w' ⟨rfl, rfl⟩) | ((with_reducible refine (isnan_any q _).mono ?_); rintro e w' ⟨rfl, rfl⟩)))
      go_ret
      refine ⟨?_, rfl⟩
      have := H.out
      unfold alk
      rw [hn, beq_eq_false_iff_ne.2 this]
      rfl
    | false =>
      go_enter Tryd.func34, Tryd.ntmps34
      go_wp2_with (first | (go_at_call 43; first | ((with_reducible refine (isnan_any p _).mono ?_); rintro e w' ⟨rfl, rfl⟩) | ((with_reducible refine (isnan_any q _).mono ?_); rintro e w' ⟨rfl, rfl⟩)))
      go_ret
      refine ⟨?_, rfl⟩
      have := H.out
      unfold alk
      rw [hn, beq_eq_false_iff_ne.2 this]
      rfl
theorem same_any (a b c d : Nat) (w : World) : Calls Tryd.prog 13 #[.complex .f64 a b, .complex .f64 c d] w fun e w' => e = .returned (.bool (alk a c && alk b d)) ∧ w = w' := by
  cases h : alk a c with
  | true =>
    go_enter Tryd.func13, Tryd.ntmps13
    go_wp2_with (first | (go_at_call 34; first | ((with_reducible refine (alike_any a c _).mono ?_); rw [h]; rintro e w' ⟨rfl, rfl⟩) | ((with_reducible refine (alike_any b d _).mono ?_); rintro e w' ⟨rfl, rfl⟩)))
    go_ret
    exact ⟨rfl, rfl⟩
  | false =>
    go_enter Tryd.func13, Tryd.ntmps13
    go_wp2_with (first | (go_at_call 34; first | ((with_reducible refine (alike_any a c _).mono ?_); rw [h]; rintro e w' ⟨rfl, rfl⟩)))
    go_ret
    exact ⟨rfl, rfl⟩
end Go.Proofs.YtlfkachphpneiaaDoor
