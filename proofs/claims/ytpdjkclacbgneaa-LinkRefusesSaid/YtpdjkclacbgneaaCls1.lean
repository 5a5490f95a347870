/- The small functions of class and code on plain data. -/
import Derived.Test.YtpdjkclacbgneaaIsName
set_option linter.unusedVariables false
set_option linter.unusedSimpArgs false
namespace Go.Proofs.Ytpdjkclacbgneaa
open Go.RowKit Go.Proofs.YtpdjkclacbgneaaW.PrintWords Go.Proofs.Ytpdjkclacbgneaa.Pl

/-! ### code -/
set_option maxHeartbeats 4000000 in
theorem operand_any (op : Int) (w : World) : Calls Try.prog 112 #[.int .i64 op] w fun e w' => e = .returned (.int .i64 (operand op)) ∧ w = w' := by
  by_cases h1 : op = 4 ∨ op = 5 ∨ op = 38 ∨ op = 39
  · rcases h1 with rfl | rfl | rfl | rfl
    all_goals
      go_enter Try.func112, Try.ntmps112
      go_wp2
      go_ret
      exact ⟨rfl, rfl⟩
  by_cases h2 : op = 1 ∨ op = 2 ∨ op = 25 ∨ op = 26 ∨ op = 27 ∨ op = 32 ∨ op = 36 ∨ op = 37 ∨ op = 43
  · rcases h2 with rfl | rfl | rfl | rfl | rfl | rfl | rfl | rfl | rfl
    all_goals
      go_enter Try.func112, Try.ntmps112
      go_wp2
      go_ret
      exact ⟨rfl, rfl⟩
  by_cases h3 : op = 22 ∨ op = 23 ∨ op = 24
  · rcases h3 with rfl | rfl | rfl
    all_goals
      go_enter Try.func112, Try.ntmps112
      go_wp2
      go_ret
      exact ⟨rfl, rfl⟩
  have hu : operand op = if op < 0 ∨ 48 ≤ op then -1 else 0 := by
    unfold operand
    rw [if_neg h1, if_neg h2, if_neg h3]
  simp only [not_or] at h1 h2 h3
  obtain ⟨a1, a2, a3, a4⟩ := h1
  obtain ⟨b1, b2, b3, b4, b5, b6, b7, b8, b9⟩ := h2
  obtain ⟨c1, c2, c3⟩ := h3
  by_cases d1 : op < 0
  · rw [hu, if_pos (Or.inl d1)]
    go_enter Try.func112, Try.ntmps112
    go_wp2
    go_ret
    exact ⟨rfl, rfl⟩
  by_cases d2 : 48 ≤ op
  · rw [hu, if_pos (Or.inr d2)]
    go_enter Try.func112, Try.ntmps112
    go_wp2
    go_ret
    exact ⟨rfl, rfl⟩
  rw [hu, if_neg (by omega)]
  go_enter Try.func112, Try.ntmps112
  go_wp2
  go_ret
  exact ⟨rfl, rfl⟩
theorem operand_is {op k : Int} (h : Hid (operand op = k)) (w : World) : Calls Try.prog 112 #[.int .i64 op] w fun e w' => e = .returned (.int .i64 k) ∧ w = w' := by
  have := operand_any op w
  rwa [h.out] at this

set_option maxHeartbeats 4000000 in
theorem codeIs_any (i : In) (w : World) : Calls Try.prog 136 #[.agg #[.int .i64 i.op, .int .i64 i.a]] w fun e w' => e = .returned (.bool (codeIs i)) ∧ Below w.heap.size w w' := by
  obtain ⟨op, a⟩ := i
  have hu : codeIs ⟨op, a⟩ = if operand op = -1 then false else if operand op = 0 then decide (a = 0) else decide (0 ≤ a) && decide (a ≤ 999) := rfl
  have HU := Lib.hid hu
  clear hu
  simp only
  generalize hk : operand op = k at HU
  have HK := Lib.hid hk
  clear hk
  by_cases h1 : k = -1
  · subst h1
    rw [HU.out, if_pos rfl]
    clear HU
    go_enter Try.func136, Try.ntmps136
    go_wp2_with (go_at_call 112; (with_reducible refine (operand_is HK _).mono ?_); rintro e w' ⟨rfl, rfl⟩)
    go_ret
    exact ⟨rfl, below_alloc (Below.refl _ _) _⟩
  by_cases h2 : k = 0
  · subst h2
    rw [HU.out, if_neg (by decide), if_pos rfl]
    clear HU
    by_cases ha : a = 0
    all_goals
      go_enter Try.func136, Try.ntmps136
      go_wp2_with (go_at_call 112; (with_reducible refine (operand_is HK _).mono ?_); rintro e w' ⟨rfl, rfl⟩)
      go_ret
      refine ⟨congrArg (fun b => Ending.returned (.bool b)) ?_, below_alloc (Below.refl _ _) _⟩
      rw [Bool.eq_iff_iff]
      simp
      try exact ha
  · rw [HU.out, if_neg h1, if_neg h2]
    clear HU
    by_cases ha : 0 ≤ a <;> by_cases hb : a ≤ 999
    all_goals first
      | omega
      | (go_enter Try.func136, Try.ntmps136
         go_wp2_with (go_at_call 112; (with_reducible refine (operand_is HK _).mono ?_); rintro e w' ⟨rfl, rfl⟩)
         go_ret
         refine ⟨congrArg (fun b => Ending.returned (.bool b)) ?_, below_alloc (Below.refl _ _) _⟩
         rw [Bool.eq_iff_iff]
         simp
         try omega)
theorem codeIs_is {i : In} {b : Bool} (h : Hid (codeIs i = b)) (w : World) : Calls Try.prog 136 #[.agg #[.int .i64 i.op, .int .i64 i.a]] w fun e w' => e = .returned (.bool b) ∧ Below w.heap.size w w' := by
  have := codeIs_any i w
  rwa [h.out] at this
set_option maxHeartbeats 4000000 in
theorem stops_any (op : Int) (w : World) : Calls Try.prog 82 #[.int .i64 op] w fun e w' => e = .returned (.bool (stops op)) ∧ w = w' := by
  by_cases h1 : op = 22 <;> by_cases h2 : op = 33 <;> by_cases h3 : op = 34 <;> by_cases h4 : op = 35
  all_goals first
    | omega
    | (try subst op
       go_enter Try.func82, Try.ntmps82
       go_wp2
       go_ret
       refine ⟨congrArg (fun b => Ending.returned (.bool b)) ?_, rfl⟩
       rw [Bool.eq_iff_iff]
       simp [stops]
       try omega)
theorem stops_is {op : Int} {b : Bool} (h : Hid (stops op = b)) (w : World) : Calls Try.prog 82 #[.int .i64 op] w fun e w' => e = .returned (.bool b) ∧ w = w' := by
  have := stops_any op w
  rwa [h.out] at this
set_option maxHeartbeats 4000000 in
theorem asks_any (op : Int) (w : World) : Calls Try.prog 137 #[.int .i64 op] w fun e w' => e = .returned (.int .i64 (asks op)) ∧ w = w' := by
  by_cases h1 : op = 1 ∨ op = 2 ∨ op = 26 ∨ op = 27 ∨ op = 32 ∨ op = 43
  · rcases h1 with rfl | rfl | rfl | rfl | rfl | rfl
    all_goals
      go_enter Try.func137, Try.ntmps137
      go_wp2
      go_ret
      exact ⟨rfl, rfl⟩
  simp only [not_or] at h1
  obtain ⟨a1, a2, a3, a4, a5, a6⟩ := h1
  have hu : asks op = 3 := by
    unfold asks
    rw [if_neg a1, if_neg a2, if_neg (by omega), if_neg (by omega)]
  rw [hu]
  go_enter Try.func137, Try.ntmps137
  go_wp2
  go_ret
  exact ⟨rfl, rfl⟩
theorem asks_is {op k : Int} (h : Hid (asks op = k)) (w : World) : Calls Try.prog 137 #[.int .i64 op] w fun e w' => e = .returned (.int .i64 k) ∧ w = w' := by
  have := asks_any op w
  rwa [h.out] at this

/-! ### types of values -/
theorem str_nil {s : ByteArray} (h : s.size = 0) : s = ⟨#[]⟩ := ByteArray.ext (Array.eq_empty_of_size_eq_zero h)
theorem str_some {s : ByteArray} (h : ¬ s.size = 0) : (s.toList == []) = false := by
  have h1 : ¬ s = ⟨#[]⟩ := fun e => h (by rw [e]; rfl)
  have := str_ne h1
  rw [ByteArray.toList_eq, ByteArray.toList_eq] at this
  rw [ByteArray.toList_eq]
  exact this
set_option maxHeartbeats 4000000 in
theorem isType_any (t : Ty) (void : Bool) (w : World) : Calls Try.prog 87 #[.agg #[.int .i64 t.kind, .string t.cls], .bool void] w fun e w' => e = .returned (.bool (isType t void)) ∧ Below w.heap.size w w' := by
  obtain ⟨k, c⟩ := t
  simp only
  by_cases h1 : k = 1 ∨ k = 2 ∨ k = 3
  · have hu : isType ⟨k, c⟩ void = decide (c.size = 0) := by unfold isType; rw [if_pos h1]
    rw [hu]
    clear hu
    by_cases hc : c.size = 0
    · obtain rfl := str_nil hc
      rcases h1 with rfl | rfl | rfl
      all_goals
        go_enter Try.func87, Try.ntmps87
        go_wp2
        go_ret
        exact ⟨rfl, below_alloc (Below.refl _ _) _⟩
    · have e1 := str_some hc
      rw [decide_eq_false hc]
      rcases h1 with rfl | rfl | rfl
      all_goals
        go_enter Try.func87, Try.ntmps87
        go_wp2
        go_ret
        exact ⟨rfl, below_alloc (Below.refl _ _) _⟩
  by_cases h2 : k = 4
  · subst h2
    have hu : isType ⟨4, c⟩ void = isName c := by unfold isType; rw [if_neg h1, if_pos rfl]
    rw [hu]
    clear hu
    generalize hb : isName c = b
    have HB := Lib.hid hb
    clear hb
    go_enter Try.func87, Try.ntmps87
    go_wp2_with (go_at_call 57; (with_reducible refine (isName_is HB _).mono ?_); rintro e w' ⟨rfl, rfl⟩)
    go_ret
    exact ⟨rfl, below_alloc (Below.refl _ _) _⟩
  by_cases h3 : k = 0
  · subst h3
    have hu : isType ⟨0, c⟩ void = (void && decide (c.size = 0)) := by unfold isType; rw [if_neg h1, if_neg h2, if_pos rfl]
    rw [hu]
    clear hu
    by_cases hc : c.size = 0
    · obtain rfl := str_nil hc
      cases void
      all_goals
        go_enter Try.func87, Try.ntmps87
        go_wp2
        go_ret
        exact ⟨rfl, below_alloc (Below.refl _ _) _⟩
    · have e1 := str_some hc
      rw [decide_eq_false hc]
      cases void
      all_goals
        go_enter Try.func87, Try.ntmps87
        go_wp2
        go_ret
        exact ⟨rfl, below_alloc (Below.refl _ _) _⟩
  have hu : isType ⟨k, c⟩ void = false := by unfold isType; rw [if_neg h1, if_neg h2, if_neg h3]
  rw [hu]
  clear hu
  simp only [not_or] at h1
  obtain ⟨a1, a2, a3⟩ := h1
  go_enter Try.func87, Try.ntmps87
  go_wp2
  go_ret
  exact ⟨rfl, below_alloc (Below.refl _ _) _⟩
theorem isType_is {t : Ty} {void b : Bool} (h : Hid (isType t void = b)) (w : World) : Calls Try.prog 87 #[.agg #[.int .i64 t.kind, .string t.cls], .bool void] w fun e w' => e = .returned (.bool b) ∧ Below w.heap.size w w' := by
  have := isType_any t void w
  rwa [h.out] at this
end Go.Proofs.Ytpdjkclacbgneaa
