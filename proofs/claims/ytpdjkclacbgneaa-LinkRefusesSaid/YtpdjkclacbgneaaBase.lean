/- Small laws that the walks of this seat share: a scope whose code jumps back to one label, proved with the pass from the label walked once. -/
import Derived.ScopeJumps
import Derived.WalkKit
namespace Go.Proofs.Ytpdjkclacbgneaa
section
variable {P : Program} {a : Act} {w : World} {Q : Exit → Act → World → Prop}

theorem Exit.jump_mono {l : Nat} {J J' : Act → World → Prop} {Q : Exit → Act → World → Prop} (h : ∀ a w, J a w → J' a w) : ∀ e a w, Exit.jump l J Q e a w → Exit.jump l J' Q e a w := by
  intro e a w hq
  cases e with
  | goto l' => exact ⟨hq.1, h a w hq.2⟩
  | _ => exact hq

/-- A scope with one label: the pass from the label is walked once; the first way to the label ends by it. -/
theorem wp_scope_once {c r : Code} (l : Nat) (J : Act → World → Prop) (μ : Act → World → Nat) (hf : findLabel c l = some (Code.skip.seq r))
    (pass : ∀ a w, J a w → r.wp P (Exit.jump l (fun a' w' => J a' w' ∧ μ a' w' < μ a w) Q) a w)
    (first : (∀ a w, J a w → r.wp P (Exit.jump l J Q) a w) → c.wp P (Exit.jump l J Q) a w) : (Code.scope c).wp P Q a w :=
  wp_scope_jumps l J μ hf (first fun a w hJ => wp_mono (pass a w hJ) (Exit.jump_mono fun _ _ h => h.1)) fun a w hJ => wp_seq (wp_skip (pass a w hJ))
end
/-- Two texts, as the walk compares them. -/
theorem str_ne {a b : ByteArray} (h : ¬ a = b) : (a.toList == b.toList) = false := by
  rw [ByteArray.toList_eq, ByteArray.toList_eq, beq_eq_false_iff_ne]
  intro e
  exact h (ByteArray.ext (Array.toList_inj.1 e))
theorem str_eq {a b : ByteArray} (h : a = b) : (a.toList == b.toList) = true := by rw [h]; simp
end Go.Proofs.Ytpdjkclacbgneaa
