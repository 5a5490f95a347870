/- CplxTells: the laws that its walk ends by. -/
import Derived.Test.YtlfkachphpneiaaDoorCDoor
import Derived.OpenShut
namespace Go.Proofs.YtlfkachphpneiaaDoor
open Go.RowKit Go.Proofs.YtlfkachphpneiaaDoorW.PrintWords
attribute [local go_sem] run_tobits run_frombits

theorem alk_add {a b c d p q r s : Nat} (h1 : AddR a b c d p q) (h2 : AddR a b c d r s) : (alk p r && alk q s) = true := by
  rw [Bool.and_eq_true]
  exact ⟨alk_iff.2 (h1.1.both h2.1), alk_iff.2 (h1.2.both h2.2)⟩
theorem alk_sub {a b c d p q r s : Nat} (h1 : SubR a b c d p q) (h2 : SubR a b c d r s) : (alk p r && alk q s) = true := by
  rw [Bool.and_eq_true]
  exact ⟨alk_iff.2 (h1.1.both h2.1), alk_iff.2 (h1.2.both h2.2)⟩
theorem alk_mul {a b c d p q r s : Nat} (h1 : MulR a b c d p q) (h2 : MulR a b c d r s) : (alk p r && alk q s) = true := by
  obtain ⟨i, j, k, l, e1, e2, e3, e4, e5, e6⟩ := h1
  obtain ⟨i', j', k', l', f1, f2, f3, f4, f5, f6⟩ := h2
  rw [Bool.and_eq_true]
  exact ⟨alk_iff.2 (Gives.alike (.inr (.inl rfl)) (e1.both f1) (e2.both f2) e5 f5), alk_iff.2 (Gives.alike (.inl rfl) (e3.both f3) (e4.both f4) e6 f6)⟩
theorem alk_norm {a b n m : Nat} (h1 : NormR a b n) (h2 : NormR a b m) : AlikeB n m := by
  obtain ⟨i, j, e1, e2, e3⟩ := h1
  obtain ⟨i', j', f1, f2, f3⟩ := h2
  exact Gives.alike (.inl rfl) (e1.both f1) (e2.both f2) e3 f3
theorem order_nan {n m : Nat} (h : nan n = true) : (FloatKind.f64.format.order n m == some .eq) = false := by
  obtain ⟨s, t, e⟩ := read_nan h
  have e' : FloatKind.f64.format.read n = .nan s t := e
  simp [Ieee.Format.order, e', Ieee.Datum.order]
/-- What two norms that are alike show to '=='. -/
theorem norm_show {n m : Nat} (h : AlikeB n m) : (FloatKind.f64.format.order n m == some .eq) = true ∨ ((FloatKind.f64.format.order n m == some .eq) = false ∧ (FloatKind.f64.format.order n n != some .eq) = true ∧ (FloatKind.f64.format.order m m != some .eq) = true) := by
  cases hn : nan n with
  | true =>
    refine .inr ⟨order_nan hn, by rw [order_ne, hn], ?_⟩
    rcases h with rfl | ⟨_, h⟩
    · rw [order_ne, hn]
    · rw [order_ne, h]
  | false =>
    rcases h with rfl | ⟨h, _⟩
    · left; rw [order_self, hn]; rfl
    · rw [hn] at h; cases h
theorem same_is {a b c d : Nat} {r : Bool} (h : Hid ((alk a c && alk b d) = r)) (w : World) : Calls Tryd.prog 13 #[.complex .f64 a b, .complex .f64 c d] w fun e w' => e = .returned (.bool r) ∧ w = w' := by
  have := same_any a b c d w
  rwa [h.out] at this
theorem ralike_is {a b c d : Nat} {r : Bool} (h : Hid ((alk a c && alk b d) = r)) (w : World) : Calls Tryd.prog 21 #[.complex .f64 a b, .complex .f64 c d] w fun e w' => e = .returned (.bool r) ∧ w = w' := by
  have := ralike_any a b c d w
  rwa [h.out] at this
theorem rnan_is {a b : Nat} {r : Bool} (h : Hid ((nan a || nan b) = r)) (w : World) : Calls Tryd.prog 26 #[.complex .f64 a b] w fun e w' => e = .returned (.bool r) ∧ w = w' := by
  have := rnan_any a b w
  rwa [h.out] at this
theorem drawn_below {w w1 : World} (h : Below w.heap.size w w1) (n : Nat) : Below w.heap.size w (w1.drewN n) := pw_below_drewN h n
theorem cparse_is {s : ByteArray} {v : Value} (h : Hid (CP (cw s) = v)) (w : World) (hl : LaidC w) : Calls Tryd.prog 11 #[.string s] w fun e w' => e = .returned v ∧ Below w.heap.size w w' := by
  have := cparse_any s w hl
  rwa [h.out] at this
theorem rcparse_is {s : ByteArray} {v : Value} (h : Hid (CP (cw s) = v)) (w : World) : Calls Tryd.prog 20 #[.string s] w (SomeP v w) := by
  have := rcparse_any s w
  rwa [h.out] at this
theorem cp_shape (s : ByteArray) : ∃ z1 z2 er, IntKind.i64.wrap er = er ∧ CP (cw s) = .tuple #[.complex .f64 z1 z2, .int .i64 er] := by
  rcases h : cw s with _ | ⟨z1, z2⟩
  · exact ⟨0, 0, 20, by decide, rfl⟩
  · exact ⟨z1, z2, 0, by decide, rfl⟩
end Go.Proofs.YtlfkachphpneiaaDoor
