/- A region that draws its order inside a range over a function: walked once, in the order of the text, its callees laying blocks. -/
import Derived.Lib.QuietBelowIn
import Derived.RangeFuncCalls
import Derived.Sort.QuietTacIn
namespace Go.Proofs.Ytpdjkclacbgneaa
open Go.RowKit Go.Sort
section
variable {n : Nat} {P : Program} {ops : Array Oper} {Q : Exit → Act → World → Prop} {md : Region.Mode}
theorem Oper.wpIn_inRound {o : Oper} {a : Act} {w : World} {K : Act → World → Prop} (l : Nat) (hd : ∀ c, o.op ≠ .defer c) (h : o.wpIn Fence.wide n P a w K Q) : o.wpIn (Fence.wide.inRound l) n P a w K Q := by
  unfold Oper.wpIn at *
  refine ⟨h.1, ?_⟩
  have h2 := h.2
  rw [Oper.semAt_eq _ _ _ hd] at h2 ⊢
  generalize (execOp a.eval o).run P w = r at *
  cases r with
  | ok x w' => cases x <;> exact h2
  | halt x w' => cases x <;> exact h2
theorem wpOpIn_inRound {i : Nat} {a : Act} {w : World} {K K' : Act → World → Prop} (l : Nat) (hd : ∀ (i : Nat) (o : Oper), ops[i]? = some o → ∀ c, o.op ≠ .defer c) (hK : ∀ a w, K a w → K' a w) (h : wpOpIn Fence.wide n P ops Q i K a w) : wpOpIn (Fence.wide.inRound l) n P ops Q i K' a w := by
  have h := wpOpIn_mono hK h
  unfold wpOpIn at *
  split
  · rename_i ho
    rw [ho] at h
    exact h
  · rename_i o ho
    rw [ho] at h
    simp only at h
    split
    · rename_i hw
      rw [if_pos hw] at h
      exact Oper.wpIn_inRound l (hd i o ho) h
    · rename_i hw
      rw [if_neg hw] at h
      exact h
theorem wpAnyIn_inRound (l : Nat) (hd : ∀ (i : Nat) (o : Oper), ops[i]? = some o → ∀ c, o.op ≠ .defer c) : ∀ (fuel : Nat) (listed : Array Bool) (a : Act) (w : World), wpAnyIn Fence.wide n P md ops Q fuel listed a w → wpAnyIn (Fence.wide.inRound l) n P md ops Q fuel listed a w
  | 0, _, _, _, h => h
  | fuel + 1, _, _, _, h => ⟨h.1, fun i hi => wpOpIn_inRound l hd (fun a w => wpAnyIn_inRound l hd fuel _ a w) (h.2 i hi)⟩
end
def noDefer (l : List Oper) : Bool := l.all fun o => match o.op with | .defer _ => false | _ => true
theorem noDefer_spec {l : List Oper} (h : noDefer l = true) (i : Nat) (o : Oper) (ho : l.toArray[i]? = some o) (c : Call) : o.op ≠ .defer c := by
  intro e
  have hm : o ∈ l := by
    have h2 : l[i]? = some o := by simpa using ho
    exact List.mem_of_getElem? h2
  have := List.all_eq_true.1 h o hm
  rw [e] at this
  cases this
theorem wpIn_region_round {n : Nat} {P : Program} {id l : Nat} {Q : Exit → Act → World → Prop} {a : Act} {w : World} {ops : List Oper} (hm : P.follows .mixedOrders = true) (hB : Region.lexB .any ops.toArray = true) (hd : noDefer ops = true)
    (h : wpQuietIn Fence.wide n P ops.toArray (fun w' => ∃ p : Regrown, w' = grow (redrawn w p.d) p.os) (fun a' => ∀ w', (∃ p : Regrown, w' = grow (redrawn w p.d) p.os) → Q .normal a' w') ops a) : (Code.region id ops.toArray true).wpIn (Fence.wide.inRound l) n P Q a w := by
  simp only [Region.lexB, Bool.and_eq_true] at hB
  refine wpIn_region_any hm (wpAnyIn_inRound l (noDefer_spec hd) _ _ _ _ (wpAnyIn_of_quiet (C := fun w' => ∃ p : Regrown, w' = grow (redrawn w p.d) p.os) (Q := fun a' => ∀ w', (∃ p : Regrown, w' = grow (redrawn w p.d) p.os) → Q .normal a' w') rfl (fun _ w' hw' h => h w' hw') _ _ _ _ ?_ ?_))
  · exact ⟨⟨w.drawn + 1, #[]⟩, by rw [grow_empty]; rfl⟩
  · have := wpAnyQIn_lex (F := Fence.wide) (n := n) (C := fun w' => ∃ p : Regrown, w' = grow (redrawn w p.d) p.os) (md := .any) hB.1 ops 0 (Array.replicate ops.toArray.size false) a (by simp) (by simpa using hB.2) h
    simpa using this
/-- The world behind such a region. -/
theorem regrown_below {w : World} (d : Nat) (os : Array Obj) : Below w.heap.size w (grow (redrawn w d) os) := below_regrown w d os
end Go.Proofs.Ytpdjkclacbgneaa
