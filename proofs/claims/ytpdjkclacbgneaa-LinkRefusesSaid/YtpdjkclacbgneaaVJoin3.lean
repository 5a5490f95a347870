/- verify's joins, whole; code.Jumps. -/
import Derived.Test.YtpdjkclacbgneaaVJoin2
set_option linter.unusedVariables false
set_option linter.unusedSimpArgs false
namespace Go.Proofs.Ytpdjkclacbgneaa
open Go.RowKit Go.Shelf Go.Proofs.YtpdjkclacbgneaaW.PrintWords Go.Proofs.Ytpdjkclacbgneaa.Pl

theorem joins_any {wB w : World} {fb lb pb : Nat} {p : Pg} {c : Cl} {m : Mt} {l : List St} {ch : Bool} (h : FlowAt wB w fb lb pb p c m l ch) (pc : Nat) (was : St) (hpc : l[pc]? = some was) (s : St) (AL AS : Option Addr) (cL cS : Nat) (hs : Arg w s AL cL AS cS) (hsr : s.reached = true)
    (hw : was.reached = true → s.locals.length ≤ was.locals.length ∧ was.locals.length ≤ 1000) :
    Calls Try.prog 51 #[.pointer (some ⟨fb, 0, none⟩), .int .i64 pc, .agg (stV true AL s.locals.length cL AS s.stack.length cS)] w (JoinsPost wB w fb lb pb p c m (joins p m.stack l ch pc s)) := by
  by_cases h1 : m.stack < s.stack.length
  · exact joins_high h pc was hpc s AL AS cL cS hs h1
  · rcases h2 : was.reached with _ | _
    · exact joins_new h pc was hpc s AL AS cL cS hs h1 h2 hsr
    · by_cases h3 : s.stack.length = was.stack.length
      · exact joins_merge h pc was hpc s AL AS cL cS hs h1 h2 h3 (hw h2).1 (hw h2).2
      · exact joins_odd h pc was hpc s AL AS cL cS hs h1 h2 h3
set_option maxHeartbeats 400000 in
theorem jumps_any (op : Int) (w : World) : Calls Try.prog 81 #[.int .i64 op] w fun e w' => e = .returned (.bool (jumps op)) ∧ w = w' := by
  have HU : Hid (decide (operand op = 3) = jumps op) := Lib.hid rfl
  generalize jumps op = q at *
  obtain ⟨k, hk⟩ : ∃ k, operand op = k := ⟨_, rfl⟩
  rw [hk] at HU
  have HK := Lib.hid hk
  clear hk
  go_enter Try.func81, Try.ntmps81
  go_wp2_with (go_at_call 112; refine (operand_is HK w).mono ?_; rintro e w' ⟨rfl, rfl⟩)
  go_ret
  refine ⟨?_, rfl⟩
  rw [← HU.out]
  exact congrArg (fun b => Ending.returned (.bool b)) (by rw [Bool.eq_iff_iff]; simp)
theorem jumps_is {op : Int} {b : Bool} (h : jumps op = b) (w : World) : Calls Try.prog 81 #[.int .i64 op] w fun e w' => e = .returned (.bool b) ∧ w = w' := by
  have := jumps_any op w
  rwa [h] at this
/-! ### what an instruction does to the lengths -/
theorem bad_loc' (r : Rn) (e : Int) : (bad r e).locals.length = r.locals.length := by rw [bad_loc]
theorem takes_loc (p : Pg) (r : Rn) (t : Ty) : (takes p r t).locals.length = r.locals.length := by
  unfold takes
  split
  · rw [bad_loc, popR_loc]
  · rw [popR_loc]
theorem takesN_loc (p : Pg) (t : Ty) : ∀ (n : Nat) (r : Rn), (takesN p t n r).locals.length = r.locals.length
  | 0, r => rfl
  | n + 1, r => by rw [takesN, takesN_loc p t n, takes_loc]
/-- So many locals, and at most so many on the stack. -/
def Sized (n k : Nat) (r : Rn) : Prop := r.locals.length = n ∧ r.stack.length ≤ k
theorem Sized.ite {n k : Nat} {c : Prop} [Decidable c] {a b : Rn} (h1 : Sized n k a) (h2 : Sized n k b) : Sized n k (if c then a else b) := by
  split
  · exact h1
  · exact h2
theorem Sized.more {n k : Nat} {r : Rn} (h : Sized n k r) : Sized n (k + 1) r := ⟨h.1, by have := h.2; omega⟩
theorem Sized.bad {n k : Nat} {r : Rn} (h : Sized n k r) (e : Int) : Sized n k (bad r e) := ⟨by rw [bad_loc]; exact h.1, by rw [bad_len]; exact h.2⟩
theorem Sized.pop {n k : Nat} {r : Rn} (h : Sized n k r) : Sized n k (popR r) := ⟨by rw [popR_loc]; exact h.1, Nat.le_trans (popR_len r) h.2⟩
theorem Sized.takes {n k : Nat} {r : Rn} (h : Sized n k r) (p : Pg) (t : Ty) (j : Nat) : Sized n k (takesN p t j r) := ⟨by rw [takesN_loc]; exact h.1, Nat.le_trans (takesN_len p t j r) h.2⟩
theorem Sized.push {n k : Nat} {r : Rn} (h : Sized n k r) (t : Ty) : Sized n (k + 1) (push r t) := ⟨h.1, by have := h.2; simp [Pl.push]; omega⟩
theorem Sized.put {n k : Nat} {r : Rn} (h : Sized n k r) (i : In) (t : Ty) : Sized n k (setLocal r i t) := ⟨by simp only [setLocal, List.length_set]; exact h.1, h.2⟩
theorem Sized.object {n k : Nat} {r : Rn} (h : Sized n k r) (t : Ty) : Sized n k (objectR r t) := by
  unfold objectR
  exact Sized.ite (h.bad _) h
theorem does_sized {n k : Nat} (p : Pg) (c : Cl) (ret : Int) {r : Rn} (h : Sized n k r) (i : In) : Sized n (k + 1) (does p c ret r i) := by
  unfold does
  repeat' (with_reducible refine Sized.ite ?_ ?_)
  all_goals first
    | exact h.push _
    | exact (h.takes p _ _).push _
    | exact (h.takes p _ _).more
    | exact (Sized.ite (h.bad _) h).push _
    | exact (h.pop.put _ _).more
    | exact h.pop.more
    | exact (h.object _).more
    | exact h.more
    | exact (h.bad _).more
end Go.Proofs.Ytpdjkclacbgneaa
