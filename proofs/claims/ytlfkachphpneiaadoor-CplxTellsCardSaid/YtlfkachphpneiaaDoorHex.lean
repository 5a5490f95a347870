/- Hexadecimal digits: no program in sight. -/
import Derived.Laws.BytesArg
namespace Go.Proofs.YtlfkachphpneiaaDoor

/-- A digit's sign. -/
def hd (d : Int) : Int := if d < 10 then 48 + d else 87 + d
/-- The digits of a number, as strconv writes them. -/
def hx (m : Nat) : List Int := if _h : m < 16 then [hd m] else hx (m / 16) ++ [hd ((m : Int) % 16)]
termination_by m
decreasing_by omega
/-- The last k digits. -/
def hk : Nat → Nat → List Int
  | 0, _ => []
  | k + 1, m => hk k (m / 16) ++ [hd ((m : Int) % 16)]
theorem hx_small {m : Nat} (h : m < 16) : hx m = [hd ((m : Int) % 16)] := by
  rw [hx, dif_pos h, Int.emod_eq_of_lt (by omega) (by omega)]
theorem hx_step {m : Nat} (h : 16 ≤ m) : hx m = hx (m / 16) ++ [hd ((m : Int) % 16)] := by
  rw [hx, dif_neg (by omega)]
theorem hk_length (k m : Nat) : (hk k m).length = k := by
  induction k generalizing m with
  | zero => rfl
  | succ k ih => simp [hk, ih]
theorem hk_zero (k : Nat) : hk k 0 = List.replicate k 48 := by
  induction k with
  | zero => rfl
  | succ k ih => rw [hk, Nat.zero_div, ih, List.replicate_succ']; rfl
/-- Noughts ahead of a number's digits, up to k signs. -/
theorem hk_hx (k : Nat) : ∀ m : Nat, m < 16 ^ (k + 1) → (hx m).length ≤ k + 1 ∧ 0 < (hx m).length ∧ List.replicate (k + 1 - (hx m).length) 48 ++ hx m = hk (k + 1) m := by
  induction k with
  | zero =>
    intro m h
    rw [hx_small (by omega)]
    exact ⟨by simp, by simp, by simp [hk]⟩
  | succ k ih =>
    intro m h
    by_cases h16 : m < 16
    · rw [hx_small h16]
      refine ⟨by simp, by simp, ?_⟩
      rw [hk, show m / 16 = 0 by omega, hk_zero]
      simp
    · obtain ⟨h1, h2, h3⟩ := ih (m / 16) (by rw [Nat.pow_succ] at h; omega)
      rw [hx_step (by omega), hk, ← h3]
      refine ⟨by simp; omega, by simp, ?_⟩
      rw [List.length_append, List.length_singleton, List.append_assoc, show k + 1 + 1 - ((hx (m / 16)).length + 1) = k + 1 - (hx (m / 16)).length by omega]
end Go.Proofs.YtlfkachphpneiaaDoor
