/- class.bits, class.constant. -/
import Derived.Test.YtpdjkclacbgneaaCls1
set_option linter.unusedVariables false
set_option linter.unusedSimpArgs false
namespace Go.Proofs.Ytpdjkclacbgneaa
open Go.RowKit Go.Proofs.YtpdjkclacbgneaaW.PrintWords Go.Proofs.Ytpdjkclacbgneaa.Pl

theorem run_tobits (b : Nat) (w : World) : (callFunc 113 #[.float .f64 b]).run Try.prog w = .ok (.value (.int .u64 (b : Int))) w := by kernel_rfl
set_option maxHeartbeats 4000000 in
theorem bits_any (re im : Nat) (w : World) : Calls Try.prog 86 #[.complex .f64 re im] w fun e w' => e = .returned (.agg #[.int .u64 re, .int .u64 im]) ∧ Below w.heap.size w w' := by
  have h1 := run_tobits re
  have h2 := run_tobits im
  go_enter Try.func86, Try.ntmps86
  go_wp2
  all_goals
    refine bodyPost_ret (results_cell_row rfl _ _ _ _ _ _ _ rfl (blk_new _ _) Try.underlying158 rfl (by kernel_rfl)) rfl ?_
    exact ⟨rfl, below_alloc (Below.refl _ _) _⟩

/-! ### boxes -/
/-- A block of cells of the call's own. -/
structure Bx (w : World) (g : Nat) (cs : Array Value) (t : TypeId) : Prop where mk :: (out : w.heap[g]? = some (.cells cs t (0, 0)))
theorem Bx.new (w : World) (cs : Array Value) (t : TypeId) : Bx (w.alloc (.cells cs t)) w.heap.size cs t := ⟨blk_new _ _⟩
theorem Bx.below {w w1 : World} {g : Nat} {cs : Array Value} {t : TypeId} (h : Bx w g cs t) (hb : Below w.heap.size w w1) : Bx w1 g cs t := ⟨blk_below h.out hb⟩
theorem Bx.cell {w : World} {g : Nat} {cs : Array Value} {t : TypeId} (h : Bx w g cs t) {j : Nat} {v : Value} (hj : cs[j]? = some v) : w.cell? ⟨g, j, none⟩ = some v := by
  unfold World.cell?
  rw [h.out]
  exact hj
theorem Bx.two {w : World} {g : Nat} {a b : Value} {t : TypeId} (h : Bx w g #[a, b] t) : w.cell? ⟨g, 0, none⟩ = some a ∧ w.cell? ⟨g, 1, none⟩ = some b := ⟨h.cell rfl, h.cell rfl⟩
theorem Bx.four {w : World} {g : Nat} {a b c d : Value} {t : TypeId} (h : Bx w g #[a, b, c, d] t) : w.cell? ⟨g, 0, none⟩ = some a ∧ w.cell? ⟨g, 1, none⟩ = some b ∧ w.cell? ⟨g, 2, none⟩ = some c ∧ w.cell? ⟨g, 3, none⟩ = some d := ⟨h.cell rfl, h.cell rfl, h.cell rfl, h.cell rfl⟩
theorem Bx.five {w : World} {g : Nat} {a b c d e : Value} {t : TypeId} (h : Bx w g #[a, b, c, d, e] t) : w.cell? ⟨g, 0, none⟩ = some a ∧ w.cell? ⟨g, 1, none⟩ = some b ∧ w.cell? ⟨g, 2, none⟩ = some c ∧ w.cell? ⟨g, 3, none⟩ = some d ∧ w.cell? ⟨g, 4, none⟩ = some e := ⟨h.cell rfl, h.cell rfl, h.cell rfl, h.cell rfl, h.cell rfl⟩
theorem Bx.eight {w : World} {g : Nat} {a b c d e f i j : Value} {t : TypeId} (h : Bx w g #[a, b, c, d, e, f, i, j] t) : w.cell? ⟨g, 0, none⟩ = some a ∧ w.cell? ⟨g, 1, none⟩ = some b ∧ w.cell? ⟨g, 2, none⟩ = some c ∧ w.cell? ⟨g, 3, none⟩ = some d ∧ w.cell? ⟨g, 4, none⟩ = some e ∧ w.cell? ⟨g, 5, none⟩ = some f ∧ w.cell? ⟨g, 6, none⟩ = some i ∧ w.cell? ⟨g, 7, none⟩ = some j := ⟨h.cell rfl, h.cell rfl, h.cell rfl, h.cell rfl, h.cell rfl, h.cell rfl, h.cell rfl, h.cell rfl⟩

abbrev cnV (c : Cn) : Value := .agg #[.int .i64 c.kind, .int .i64 c.int, .complex .f64 c.re c.im, .string c.cls, .string c.name]
theorem eqArr (a b c d : Int) (w : World) : (Op.equalIn 10000 158 (.agg #[.int .u64 a, .int .u64 b]) (.agg #[.int .u64 c, .int .u64 d])).run Try.prog w = .ok (a == c && b == d) w := by
  have u3 := Try.underlying157
  have a3 := Try.isAgg157
  have z3 := Try.sizeOf157
  rw [show (10000 : Nat) = 9999 + 1 from rfl, Op.equalIn]
  simp only [Sem.run_bind, run_underlying Try.underlying158, Result.andThen_ok]
  simp only [Std.Legacy.Range.forIn_eq_forIn_range', Std.Legacy.Range.size, Nat.sub_zero, Nat.add_sub_cancel, Nat.div_one, List.range'_succ, List.range'_zero, List.forIn_cons, List.forIn_nil]
  go_simp
  by_cases h1 : a = c <;> by_cases h2 : b = d <;> simp [h1, h2]
theorem bthen {w w1 w2 : World} (h : Below w.heap.size w w1) (k : Below w1.heap.size w1 w2) : Below w.heap.size w w2 := below_then h h.size k
theorem balloc (w : World) (o : Obj) : Below w.heap.size w (w.alloc o) := below_alloc (Below.refl _ _) o
set_option maxHeartbeats 4000000 in
set_option maxRecDepth 10000 in
theorem constant_1 (n : Int) (re im : Nat) (cl nm : ByteArray) (w : World) : Calls Try.prog 58 #[cnV ⟨1, n, re, im, cl, nm⟩] w fun e w' => e = .returned (.int .i64 (constant ⟨1, n, re, im, cl, nm⟩)) ∧ Below w.heap.size w w' := by
  have q := eqArr
  by_cases h2 : re = 0
  rotate_left
  · have hu : constant ⟨1, n, re, im, cl, nm⟩ = 51 := by simp [constant, h2]
    rw [hu]
    clear hu
    have e2 : ((re : Int) == 0) = false := by rw [beq_eq_false_iff_ne]; omega
    go_enter Try.func58, Try.ntmps58
    go_wp2_with first
      | (go_at_call 86; (with_reducible refine (bits_any _ _ _).mono ?_); rintro e w' ⟨rfl, hb⟩; (first | (replace hB := hB.below hb) | (have hB := (Bx.new _ _ _).below hb)); (first | (replace hW := bthen hW hb) | (have hW := bthen (balloc _ _) hb)); clear hb; obtain ⟨c0, c1, c2, c3, c4⟩ := hB.five)
      | (go_at_call 57; (with_reducible refine (isName_is HC _).mono ?_); rintro e w' ⟨rfl, rfl⟩)
      | (go_at_call 57; (with_reducible refine (isName_is HN _).mono ?_); rintro e w' ⟨rfl, rfl⟩)
    all_goals
      go_ret
      first
        | exact ⟨rfl, hW⟩
        | exact ⟨rfl, balloc _ _⟩
  subst h2
  by_cases h3 : im = 0
  rotate_left
  · have hu : constant ⟨1, n, 0, im, cl, nm⟩ = 51 := by simp [constant, h3]
    rw [hu]
    clear hu
    have e2 : ((im : Int) == 0) = false := by rw [beq_eq_false_iff_ne]; omega
    go_enter Try.func58, Try.ntmps58
    go_wp2_with first
      | (go_at_call 86; (with_reducible refine (bits_any _ _ _).mono ?_); rintro e w' ⟨rfl, hb⟩; (first | (replace hB := hB.below hb) | (have hB := (Bx.new _ _ _).below hb)); (first | (replace hW := bthen hW hb) | (have hW := bthen (balloc _ _) hb)); clear hb; obtain ⟨c0, c1, c2, c3, c4⟩ := hB.five)
      | (go_at_call 57; (with_reducible refine (isName_is HC _).mono ?_); rintro e w' ⟨rfl, rfl⟩)
      | (go_at_call 57; (with_reducible refine (isName_is HN _).mono ?_); rintro e w' ⟨rfl, rfl⟩)
    all_goals
      go_ret
      first
        | exact ⟨rfl, hW⟩
        | exact ⟨rfl, balloc _ _⟩
  subst h3
  by_cases h4 : cl.size = 0
  rotate_left
  · have hu : constant ⟨1, n, 0, 0, cl, nm⟩ = 51 := by simp [constant, h4]
    rw [hu]
    clear hu
    have e4 := str_some h4
    go_enter Try.func58, Try.ntmps58
    go_wp2_with first
      | (go_at_call 86; (with_reducible refine (bits_any _ _ _).mono ?_); rintro e w' ⟨rfl, hb⟩; (first | (replace hB := hB.below hb) | (have hB := (Bx.new _ _ _).below hb)); (first | (replace hW := bthen hW hb) | (have hW := bthen (balloc _ _) hb)); clear hb; obtain ⟨c0, c1, c2, c3, c4⟩ := hB.five)
      | (go_at_call 57; (with_reducible refine (isName_is HC _).mono ?_); rintro e w' ⟨rfl, rfl⟩)
      | (go_at_call 57; (with_reducible refine (isName_is HN _).mono ?_); rintro e w' ⟨rfl, rfl⟩)
    all_goals
      go_ret
      first
        | exact ⟨rfl, hW⟩
        | exact ⟨rfl, balloc _ _⟩
  obtain rfl := str_nil h4
  by_cases h5 : nm.size = 0
  rotate_left
  · have hu : constant ⟨1, n, 0, 0, ⟨#[]⟩, nm⟩ = 51 := by simp [constant, h5]
    rw [hu]
    clear hu
    have e5 := str_some h5
    go_enter Try.func58, Try.ntmps58
    go_wp2_with first
      | (go_at_call 86; (with_reducible refine (bits_any _ _ _).mono ?_); rintro e w' ⟨rfl, hb⟩; (first | (replace hB := hB.below hb) | (have hB := (Bx.new _ _ _).below hb)); (first | (replace hW := bthen hW hb) | (have hW := bthen (balloc _ _) hb)); clear hb; obtain ⟨c0, c1, c2, c3, c4⟩ := hB.five)
      | (go_at_call 57; (with_reducible refine (isName_is HC _).mono ?_); rintro e w' ⟨rfl, rfl⟩)
      | (go_at_call 57; (with_reducible refine (isName_is HN _).mono ?_); rintro e w' ⟨rfl, rfl⟩)
    all_goals
      go_ret
      first
        | exact ⟨rfl, hW⟩
        | exact ⟨rfl, balloc _ _⟩
  obtain rfl := str_nil h5
  · have hu : constant ⟨1, n, 0, 0, ⟨#[]⟩, ⟨#[]⟩⟩ = 0 := by simp [constant]; rfl
    rw [hu]
    clear hu
    go_enter Try.func58, Try.ntmps58
    go_wp2_with first
      | (go_at_call 86; (with_reducible refine (bits_any _ _ _).mono ?_); rintro e w' ⟨rfl, hb⟩; (first | (replace hB := hB.below hb) | (have hB := (Bx.new _ _ _).below hb)); (first | (replace hW := bthen hW hb) | (have hW := bthen (balloc _ _) hb)); clear hb; obtain ⟨c0, c1, c2, c3, c4⟩ := hB.five)
      | (go_at_call 57; (with_reducible refine (isName_is HC _).mono ?_); rintro e w' ⟨rfl, rfl⟩)
      | (go_at_call 57; (with_reducible refine (isName_is HN _).mono ?_); rintro e w' ⟨rfl, rfl⟩)
    all_goals
      go_ret
      first
        | exact ⟨rfl, hW⟩
        | exact ⟨rfl, balloc _ _⟩
set_option maxHeartbeats 4000000 in
set_option maxRecDepth 10000 in
theorem constant_2 (n : Int) (re im : Nat) (cl nm : ByteArray) (w : World) : Calls Try.prog 58 #[cnV ⟨2, n, re, im, cl, nm⟩] w fun e w' => e = .returned (.int .i64 (constant ⟨2, n, re, im, cl, nm⟩)) ∧ Below w.heap.size w w' := by
  have q := eqArr
  by_cases h1 : n = 0
  rotate_left
  · have hu : constant ⟨2, n, re, im, cl, nm⟩ = 51 := by simp [constant, h1]
    rw [hu]
    clear hu
    go_enter Try.func58, Try.ntmps58
    go_wp2_with first
      | (go_at_call 86; (with_reducible refine (bits_any _ _ _).mono ?_); rintro e w' ⟨rfl, hb⟩; (first | (replace hB := hB.below hb) | (have hB := (Bx.new _ _ _).below hb)); (first | (replace hW := bthen hW hb) | (have hW := bthen (balloc _ _) hb)); clear hb; obtain ⟨c0, c1, c2, c3, c4⟩ := hB.five)
      | (go_at_call 57; (with_reducible refine (isName_is HC _).mono ?_); rintro e w' ⟨rfl, rfl⟩)
      | (go_at_call 57; (with_reducible refine (isName_is HN _).mono ?_); rintro e w' ⟨rfl, rfl⟩)
    all_goals
      go_ret
      first
        | exact ⟨rfl, hW⟩
        | exact ⟨rfl, balloc _ _⟩
  subst h1
  by_cases h4 : cl.size = 0
  rotate_left
  · have hu : constant ⟨2, 0, re, im, cl, nm⟩ = 51 := by simp [constant, h4]
    rw [hu]
    clear hu
    have e4 := str_some h4
    go_enter Try.func58, Try.ntmps58
    go_wp2_with first
      | (go_at_call 86; (with_reducible refine (bits_any _ _ _).mono ?_); rintro e w' ⟨rfl, hb⟩; (first | (replace hB := hB.below hb) | (have hB := (Bx.new _ _ _).below hb)); (first | (replace hW := bthen hW hb) | (have hW := bthen (balloc _ _) hb)); clear hb; obtain ⟨c0, c1, c2, c3, c4⟩ := hB.five)
      | (go_at_call 57; (with_reducible refine (isName_is HC _).mono ?_); rintro e w' ⟨rfl, rfl⟩)
      | (go_at_call 57; (with_reducible refine (isName_is HN _).mono ?_); rintro e w' ⟨rfl, rfl⟩)
    all_goals
      go_ret
      first
        | exact ⟨rfl, hW⟩
        | exact ⟨rfl, balloc _ _⟩
  obtain rfl := str_nil h4
  by_cases h5 : nm.size = 0
  rotate_left
  · have hu : constant ⟨2, 0, re, im, ⟨#[]⟩, nm⟩ = 51 := by simp [constant, h5]
    rw [hu]
    clear hu
    have e5 := str_some h5
    go_enter Try.func58, Try.ntmps58
    go_wp2_with first
      | (go_at_call 86; (with_reducible refine (bits_any _ _ _).mono ?_); rintro e w' ⟨rfl, hb⟩; (first | (replace hB := hB.below hb) | (have hB := (Bx.new _ _ _).below hb)); (first | (replace hW := bthen hW hb) | (have hW := bthen (balloc _ _) hb)); clear hb; obtain ⟨c0, c1, c2, c3, c4⟩ := hB.five)
      | (go_at_call 57; (with_reducible refine (isName_is HC _).mono ?_); rintro e w' ⟨rfl, rfl⟩)
      | (go_at_call 57; (with_reducible refine (isName_is HN _).mono ?_); rintro e w' ⟨rfl, rfl⟩)
    all_goals
      go_ret
      first
        | exact ⟨rfl, hW⟩
        | exact ⟨rfl, balloc _ _⟩
  obtain rfl := str_nil h5
  · have hu : constant ⟨2, 0, re, im, ⟨#[]⟩, ⟨#[]⟩⟩ = 0 := by simp [constant]; rfl
    rw [hu]
    clear hu
    go_enter Try.func58, Try.ntmps58
    go_wp2_with first
      | (go_at_call 86; (with_reducible refine (bits_any _ _ _).mono ?_); rintro e w' ⟨rfl, hb⟩; (first | (replace hB := hB.below hb) | (have hB := (Bx.new _ _ _).below hb)); (first | (replace hW := bthen hW hb) | (have hW := bthen (balloc _ _) hb)); clear hb; obtain ⟨c0, c1, c2, c3, c4⟩ := hB.five)
      | (go_at_call 57; (with_reducible refine (isName_is HC _).mono ?_); rintro e w' ⟨rfl, rfl⟩)
      | (go_at_call 57; (with_reducible refine (isName_is HN _).mono ?_); rintro e w' ⟨rfl, rfl⟩)
    all_goals
      go_ret
      first
        | exact ⟨rfl, hW⟩
        | exact ⟨rfl, balloc _ _⟩
set_option maxHeartbeats 4000000 in
set_option maxRecDepth 10000 in
theorem constant_3 (n : Int) (re im : Nat) (cl nm : ByteArray) (w : World) : Calls Try.prog 58 #[cnV ⟨3, n, re, im, cl, nm⟩] w fun e w' => e = .returned (.int .i64 (constant ⟨3, n, re, im, cl, nm⟩)) ∧ Below w.heap.size w w' := by
  have q := eqArr
  by_cases h1 : n = 0
  rotate_left
  · have hu : constant ⟨3, n, re, im, cl, nm⟩ = 51 := by simp [constant, h1]
    rw [hu]
    clear hu
    go_enter Try.func58, Try.ntmps58
    go_wp2_with first
      | (go_at_call 86; (with_reducible refine (bits_any _ _ _).mono ?_); rintro e w' ⟨rfl, hb⟩; (first | (replace hB := hB.below hb) | (have hB := (Bx.new _ _ _).below hb)); (first | (replace hW := bthen hW hb) | (have hW := bthen (balloc _ _) hb)); clear hb; obtain ⟨c0, c1, c2, c3, c4⟩ := hB.five)
      | (go_at_call 57; (with_reducible refine (isName_is HC _).mono ?_); rintro e w' ⟨rfl, rfl⟩)
      | (go_at_call 57; (with_reducible refine (isName_is HN _).mono ?_); rintro e w' ⟨rfl, rfl⟩)
    all_goals
      go_ret
      first
        | exact ⟨rfl, hW⟩
        | exact ⟨rfl, balloc _ _⟩
  subst h1
  by_cases h2 : re = 0
  rotate_left
  · have hu : constant ⟨3, 0, re, im, cl, nm⟩ = 51 := by simp [constant, h2]
    rw [hu]
    clear hu
    have e2 : ((re : Int) == 0) = false := by rw [beq_eq_false_iff_ne]; omega
    go_enter Try.func58, Try.ntmps58
    go_wp2_with first
      | (go_at_call 86; (with_reducible refine (bits_any _ _ _).mono ?_); rintro e w' ⟨rfl, hb⟩; (first | (replace hB := hB.below hb) | (have hB := (Bx.new _ _ _).below hb)); (first | (replace hW := bthen hW hb) | (have hW := bthen (balloc _ _) hb)); clear hb; obtain ⟨c0, c1, c2, c3, c4⟩ := hB.five)
      | (go_at_call 57; (with_reducible refine (isName_is HC _).mono ?_); rintro e w' ⟨rfl, rfl⟩)
      | (go_at_call 57; (with_reducible refine (isName_is HN _).mono ?_); rintro e w' ⟨rfl, rfl⟩)
    all_goals
      go_ret
      first
        | exact ⟨rfl, hW⟩
        | exact ⟨rfl, balloc _ _⟩
  subst h2
  by_cases h3 : im = 0
  rotate_left
  · have hu : constant ⟨3, 0, 0, im, cl, nm⟩ = 51 := by simp [constant, h3]
    rw [hu]
    clear hu
    have e2 : ((im : Int) == 0) = false := by rw [beq_eq_false_iff_ne]; omega
    go_enter Try.func58, Try.ntmps58
    go_wp2_with first
      | (go_at_call 86; (with_reducible refine (bits_any _ _ _).mono ?_); rintro e w' ⟨rfl, hb⟩; (first | (replace hB := hB.below hb) | (have hB := (Bx.new _ _ _).below hb)); (first | (replace hW := bthen hW hb) | (have hW := bthen (balloc _ _) hb)); clear hb; obtain ⟨c0, c1, c2, c3, c4⟩ := hB.five)
      | (go_at_call 57; (with_reducible refine (isName_is HC _).mono ?_); rintro e w' ⟨rfl, rfl⟩)
      | (go_at_call 57; (with_reducible refine (isName_is HN _).mono ?_); rintro e w' ⟨rfl, rfl⟩)
    all_goals
      go_ret
      first
        | exact ⟨rfl, hW⟩
        | exact ⟨rfl, balloc _ _⟩
  subst h3
  by_cases h5 : nm.size = 0
  rotate_left
  · have hu : constant ⟨3, 0, 0, 0, cl, nm⟩ = 51 := by simp [constant, h5]
    rw [hu]
    clear hu
    have e5 := str_some h5
    go_enter Try.func58, Try.ntmps58
    go_wp2_with first
      | (go_at_call 86; (with_reducible refine (bits_any _ _ _).mono ?_); rintro e w' ⟨rfl, hb⟩; (first | (replace hB := hB.below hb) | (have hB := (Bx.new _ _ _).below hb)); (first | (replace hW := bthen hW hb) | (have hW := bthen (balloc _ _) hb)); clear hb; obtain ⟨c0, c1, c2, c3, c4⟩ := hB.five)
      | (go_at_call 57; (with_reducible refine (isName_is HC _).mono ?_); rintro e w' ⟨rfl, rfl⟩)
      | (go_at_call 57; (with_reducible refine (isName_is HN _).mono ?_); rintro e w' ⟨rfl, rfl⟩)
    all_goals
      go_ret
      first
        | exact ⟨rfl, hW⟩
        | exact ⟨rfl, balloc _ _⟩
  obtain rfl := str_nil h5
  by_cases h6 : isName cl = true
  rotate_left
  · have hu : constant ⟨3, 0, 0, 0, cl, ⟨#[]⟩⟩ = 50 := by simp [constant, h6]; rfl
    rw [hu]
    clear hu
    have HC := Lib.hid (Bool.eq_false_iff.2 h6)
    clear h6
    go_enter Try.func58, Try.ntmps58
    go_wp2_with first
      | (go_at_call 86; (with_reducible refine (bits_any _ _ _).mono ?_); rintro e w' ⟨rfl, hb⟩; (first | (replace hB := hB.below hb) | (have hB := (Bx.new _ _ _).below hb)); (first | (replace hW := bthen hW hb) | (have hW := bthen (balloc _ _) hb)); clear hb; obtain ⟨c0, c1, c2, c3, c4⟩ := hB.five)
      | (go_at_call 57; (with_reducible refine (isName_is HC _).mono ?_); rintro e w' ⟨rfl, rfl⟩)
      | (go_at_call 57; (with_reducible refine (isName_is HN _).mono ?_); rintro e w' ⟨rfl, rfl⟩)
    all_goals
      go_ret
      first
        | exact ⟨rfl, hW⟩
        | exact ⟨rfl, balloc _ _⟩
  · have hu : constant ⟨3, 0, 0, 0, cl, ⟨#[]⟩⟩ = 0 := by simp [constant, h6]; rfl
    rw [hu]
    clear hu
    have HC := Lib.hid h6
    clear h6
    go_enter Try.func58, Try.ntmps58
    go_wp2_with first
      | (go_at_call 86; (with_reducible refine (bits_any _ _ _).mono ?_); rintro e w' ⟨rfl, hb⟩; (first | (replace hB := hB.below hb) | (have hB := (Bx.new _ _ _).below hb)); (first | (replace hW := bthen hW hb) | (have hW := bthen (balloc _ _) hb)); clear hb; obtain ⟨c0, c1, c2, c3, c4⟩ := hB.five)
      | (go_at_call 57; (with_reducible refine (isName_is HC _).mono ?_); rintro e w' ⟨rfl, rfl⟩)
      | (go_at_call 57; (with_reducible refine (isName_is HN _).mono ?_); rintro e w' ⟨rfl, rfl⟩)
    all_goals
      go_ret
      first
        | exact ⟨rfl, hW⟩
        | exact ⟨rfl, balloc _ _⟩
set_option maxHeartbeats 4000000 in
set_option maxRecDepth 10000 in
theorem constant_4 (n : Int) (re im : Nat) (cl nm : ByteArray) (w : World) : Calls Try.prog 58 #[cnV ⟨4, n, re, im, cl, nm⟩] w fun e w' => e = .returned (.int .i64 (constant ⟨4, n, re, im, cl, nm⟩)) ∧ Below w.heap.size w w' := by
  have q := eqArr
  by_cases h1 : n = 0
  rotate_left
  · have hu : constant ⟨4, n, re, im, cl, nm⟩ = 51 := by simp [constant, h1]
    rw [hu]
    clear hu
    go_enter Try.func58, Try.ntmps58
    go_wp2_with first
      | (go_at_call 86; (with_reducible refine (bits_any _ _ _).mono ?_); rintro e w' ⟨rfl, hb⟩; (first | (replace hB := hB.below hb) | (have hB := (Bx.new _ _ _).below hb)); (first | (replace hW := bthen hW hb) | (have hW := bthen (balloc _ _) hb)); clear hb; obtain ⟨c0, c1, c2, c3, c4⟩ := hB.five)
      | (go_at_call 57; (with_reducible refine (isName_is HC _).mono ?_); rintro e w' ⟨rfl, rfl⟩)
      | (go_at_call 57; (with_reducible refine (isName_is HN _).mono ?_); rintro e w' ⟨rfl, rfl⟩)
    all_goals
      go_ret
      first
        | exact ⟨rfl, hW⟩
        | exact ⟨rfl, balloc _ _⟩
  subst h1
  by_cases h2 : re = 0
  rotate_left
  · have hu : constant ⟨4, 0, re, im, cl, nm⟩ = 51 := by simp [constant, h2]
    rw [hu]
    clear hu
    have e2 : ((re : Int) == 0) = false := by rw [beq_eq_false_iff_ne]; omega
    go_enter Try.func58, Try.ntmps58
    go_wp2_with first
      | (go_at_call 86; (with_reducible refine (bits_any _ _ _).mono ?_); rintro e w' ⟨rfl, hb⟩; (first | (replace hB := hB.below hb) | (have hB := (Bx.new _ _ _).below hb)); (first | (replace hW := bthen hW hb) | (have hW := bthen (balloc _ _) hb)); clear hb; obtain ⟨c0, c1, c2, c3, c4⟩ := hB.five)
      | (go_at_call 57; (with_reducible refine (isName_is HC _).mono ?_); rintro e w' ⟨rfl, rfl⟩)
      | (go_at_call 57; (with_reducible refine (isName_is HN _).mono ?_); rintro e w' ⟨rfl, rfl⟩)
    all_goals
      go_ret
      first
        | exact ⟨rfl, hW⟩
        | exact ⟨rfl, balloc _ _⟩
  subst h2
  by_cases h3 : im = 0
  rotate_left
  · have hu : constant ⟨4, 0, 0, im, cl, nm⟩ = 51 := by simp [constant, h3]
    rw [hu]
    clear hu
    have e2 : ((im : Int) == 0) = false := by rw [beq_eq_false_iff_ne]; omega
    go_enter Try.func58, Try.ntmps58
    go_wp2_with first
      | (go_at_call 86; (with_reducible refine (bits_any _ _ _).mono ?_); rintro e w' ⟨rfl, hb⟩; (first | (replace hB := hB.below hb) | (have hB := (Bx.new _ _ _).below hb)); (first | (replace hW := bthen hW hb) | (have hW := bthen (balloc _ _) hb)); clear hb; obtain ⟨c0, c1, c2, c3, c4⟩ := hB.five)
      | (go_at_call 57; (with_reducible refine (isName_is HC _).mono ?_); rintro e w' ⟨rfl, rfl⟩)
      | (go_at_call 57; (with_reducible refine (isName_is HN _).mono ?_); rintro e w' ⟨rfl, rfl⟩)
    all_goals
      go_ret
      first
        | exact ⟨rfl, hW⟩
        | exact ⟨rfl, balloc _ _⟩
  subst h3
  by_cases h6 : isName cl = true
  rotate_left
  · have hu : constant ⟨4, 0, 0, 0, cl, nm⟩ = 50 := by simp [constant, h6]
    rw [hu]
    clear hu
    have HC := Lib.hid (Bool.eq_false_iff.2 h6)
    clear h6
    go_enter Try.func58, Try.ntmps58
    go_wp2_with first
      | (go_at_call 86; (with_reducible refine (bits_any _ _ _).mono ?_); rintro e w' ⟨rfl, hb⟩; (first | (replace hB := hB.below hb) | (have hB := (Bx.new _ _ _).below hb)); (first | (replace hW := bthen hW hb) | (have hW := bthen (balloc _ _) hb)); clear hb; obtain ⟨c0, c1, c2, c3, c4⟩ := hB.five)
      | (go_at_call 57; (with_reducible refine (isName_is HC _).mono ?_); rintro e w' ⟨rfl, rfl⟩)
      | (go_at_call 57; (with_reducible refine (isName_is HN _).mono ?_); rintro e w' ⟨rfl, rfl⟩)
    all_goals
      go_ret
      first
        | exact ⟨rfl, hW⟩
        | exact ⟨rfl, balloc _ _⟩
  by_cases h7 : isName nm = true
  rotate_left
  · have hu : constant ⟨4, 0, 0, 0, cl, nm⟩ = 50 := by simp [constant, h6, h7]
    rw [hu]
    clear hu
    have HC := Lib.hid h6
    have HN := Lib.hid (Bool.eq_false_iff.2 h7)
    clear h6 h7
    go_enter Try.func58, Try.ntmps58
    go_wp2_with first
      | (go_at_call 86; (with_reducible refine (bits_any _ _ _).mono ?_); rintro e w' ⟨rfl, hb⟩; (first | (replace hB := hB.below hb) | (have hB := (Bx.new _ _ _).below hb)); (first | (replace hW := bthen hW hb) | (have hW := bthen (balloc _ _) hb)); clear hb; obtain ⟨c0, c1, c2, c3, c4⟩ := hB.five)
      | (go_at_call 57; (with_reducible refine (isName_is HC _).mono ?_); rintro e w' ⟨rfl, rfl⟩)
      | (go_at_call 57; (with_reducible refine (isName_is HN _).mono ?_); rintro e w' ⟨rfl, rfl⟩)
    all_goals
      go_ret
      first
        | exact ⟨rfl, hW⟩
        | exact ⟨rfl, balloc _ _⟩
  · have hu : constant ⟨4, 0, 0, 0, cl, nm⟩ = 0 := by simp [constant, h6, h7]
    rw [hu]
    clear hu
    have HC := Lib.hid h6
    have HN := Lib.hid h7
    clear h6 h7
    go_enter Try.func58, Try.ntmps58
    go_wp2_with first
      | (go_at_call 86; (with_reducible refine (bits_any _ _ _).mono ?_); rintro e w' ⟨rfl, hb⟩; (first | (replace hB := hB.below hb) | (have hB := (Bx.new _ _ _).below hb)); (first | (replace hW := bthen hW hb) | (have hW := bthen (balloc _ _) hb)); clear hb; obtain ⟨c0, c1, c2, c3, c4⟩ := hB.five)
      | (go_at_call 57; (with_reducible refine (isName_is HC _).mono ?_); rintro e w' ⟨rfl, rfl⟩)
      | (go_at_call 57; (with_reducible refine (isName_is HN _).mono ?_); rintro e w' ⟨rfl, rfl⟩)
    all_goals
      go_ret
      first
        | exact ⟨rfl, hW⟩
        | exact ⟨rfl, balloc _ _⟩
set_option maxHeartbeats 4000000 in
set_option maxRecDepth 10000 in
theorem constant_5 (n : Int) (re im : Nat) (cl nm : ByteArray) (w : World) : Calls Try.prog 58 #[cnV ⟨5, n, re, im, cl, nm⟩] w fun e w' => e = .returned (.int .i64 (constant ⟨5, n, re, im, cl, nm⟩)) ∧ Below w.heap.size w w' := by
  have q := eqArr
  by_cases h1 : n = 0
  rotate_left
  · have hu : constant ⟨5, n, re, im, cl, nm⟩ = 51 := by simp [constant, h1]
    rw [hu]
    clear hu
    go_enter Try.func58, Try.ntmps58
    go_wp2_with first
      | (go_at_call 86; (with_reducible refine (bits_any _ _ _).mono ?_); rintro e w' ⟨rfl, hb⟩; (first | (replace hB := hB.below hb) | (have hB := (Bx.new _ _ _).below hb)); (first | (replace hW := bthen hW hb) | (have hW := bthen (balloc _ _) hb)); clear hb; obtain ⟨c0, c1, c2, c3, c4⟩ := hB.five)
      | (go_at_call 57; (with_reducible refine (isName_is HC _).mono ?_); rintro e w' ⟨rfl, rfl⟩)
      | (go_at_call 57; (with_reducible refine (isName_is HN _).mono ?_); rintro e w' ⟨rfl, rfl⟩)
    all_goals
      go_ret
      first
        | exact ⟨rfl, hW⟩
        | exact ⟨rfl, balloc _ _⟩
  subst h1
  by_cases h2 : re = 0
  rotate_left
  · have hu : constant ⟨5, 0, re, im, cl, nm⟩ = 51 := by simp [constant, h2]
    rw [hu]
    clear hu
    have e2 : ((re : Int) == 0) = false := by rw [beq_eq_false_iff_ne]; omega
    go_enter Try.func58, Try.ntmps58
    go_wp2_with first
      | (go_at_call 86; (with_reducible refine (bits_any _ _ _).mono ?_); rintro e w' ⟨rfl, hb⟩; (first | (replace hB := hB.below hb) | (have hB := (Bx.new _ _ _).below hb)); (first | (replace hW := bthen hW hb) | (have hW := bthen (balloc _ _) hb)); clear hb; obtain ⟨c0, c1, c2, c3, c4⟩ := hB.five)
      | (go_at_call 57; (with_reducible refine (isName_is HC _).mono ?_); rintro e w' ⟨rfl, rfl⟩)
      | (go_at_call 57; (with_reducible refine (isName_is HN _).mono ?_); rintro e w' ⟨rfl, rfl⟩)
    all_goals
      go_ret
      first
        | exact ⟨rfl, hW⟩
        | exact ⟨rfl, balloc _ _⟩
  subst h2
  by_cases h3 : im = 0
  rotate_left
  · have hu : constant ⟨5, 0, 0, im, cl, nm⟩ = 51 := by simp [constant, h3]
    rw [hu]
    clear hu
    have e2 : ((im : Int) == 0) = false := by rw [beq_eq_false_iff_ne]; omega
    go_enter Try.func58, Try.ntmps58
    go_wp2_with first
      | (go_at_call 86; (with_reducible refine (bits_any _ _ _).mono ?_); rintro e w' ⟨rfl, hb⟩; (first | (replace hB := hB.below hb) | (have hB := (Bx.new _ _ _).below hb)); (first | (replace hW := bthen hW hb) | (have hW := bthen (balloc _ _) hb)); clear hb; obtain ⟨c0, c1, c2, c3, c4⟩ := hB.five)
      | (go_at_call 57; (with_reducible refine (isName_is HC _).mono ?_); rintro e w' ⟨rfl, rfl⟩)
      | (go_at_call 57; (with_reducible refine (isName_is HN _).mono ?_); rintro e w' ⟨rfl, rfl⟩)
    all_goals
      go_ret
      first
        | exact ⟨rfl, hW⟩
        | exact ⟨rfl, balloc _ _⟩
  subst h3
  by_cases h6 : isName cl = true
  rotate_left
  · have hu : constant ⟨5, 0, 0, 0, cl, nm⟩ = 50 := by simp [constant, h6]
    rw [hu]
    clear hu
    have HC := Lib.hid (Bool.eq_false_iff.2 h6)
    clear h6
    go_enter Try.func58, Try.ntmps58
    go_wp2_with first
      | (go_at_call 86; (with_reducible refine (bits_any _ _ _).mono ?_); rintro e w' ⟨rfl, hb⟩; (first | (replace hB := hB.below hb) | (have hB := (Bx.new _ _ _).below hb)); (first | (replace hW := bthen hW hb) | (have hW := bthen (balloc _ _) hb)); clear hb; obtain ⟨c0, c1, c2, c3, c4⟩ := hB.five)
      | (go_at_call 57; (with_reducible refine (isName_is HC _).mono ?_); rintro e w' ⟨rfl, rfl⟩)
      | (go_at_call 57; (with_reducible refine (isName_is HN _).mono ?_); rintro e w' ⟨rfl, rfl⟩)
    all_goals
      go_ret
      first
        | exact ⟨rfl, hW⟩
        | exact ⟨rfl, balloc _ _⟩
  by_cases h7 : isName nm = true
  rotate_left
  · have hu : constant ⟨5, 0, 0, 0, cl, nm⟩ = 50 := by simp [constant, h6, h7]
    rw [hu]
    clear hu
    have HC := Lib.hid h6
    have HN := Lib.hid (Bool.eq_false_iff.2 h7)
    clear h6 h7
    go_enter Try.func58, Try.ntmps58
    go_wp2_with first
      | (go_at_call 86; (with_reducible refine (bits_any _ _ _).mono ?_); rintro e w' ⟨rfl, hb⟩; (first | (replace hB := hB.below hb) | (have hB := (Bx.new _ _ _).below hb)); (first | (replace hW := bthen hW hb) | (have hW := bthen (balloc _ _) hb)); clear hb; obtain ⟨c0, c1, c2, c3, c4⟩ := hB.five)
      | (go_at_call 57; (with_reducible refine (isName_is HC _).mono ?_); rintro e w' ⟨rfl, rfl⟩)
      | (go_at_call 57; (with_reducible refine (isName_is HN _).mono ?_); rintro e w' ⟨rfl, rfl⟩)
    all_goals
      go_ret
      first
        | exact ⟨rfl, hW⟩
        | exact ⟨rfl, balloc _ _⟩
  · have hu : constant ⟨5, 0, 0, 0, cl, nm⟩ = 0 := by simp [constant, h6, h7]
    rw [hu]
    clear hu
    have HC := Lib.hid h6
    have HN := Lib.hid h7
    clear h6 h7
    go_enter Try.func58, Try.ntmps58
    go_wp2_with first
      | (go_at_call 86; (with_reducible refine (bits_any _ _ _).mono ?_); rintro e w' ⟨rfl, hb⟩; (first | (replace hB := hB.below hb) | (have hB := (Bx.new _ _ _).below hb)); (first | (replace hW := bthen hW hb) | (have hW := bthen (balloc _ _) hb)); clear hb; obtain ⟨c0, c1, c2, c3, c4⟩ := hB.five)
      | (go_at_call 57; (with_reducible refine (isName_is HC _).mono ?_); rintro e w' ⟨rfl, rfl⟩)
      | (go_at_call 57; (with_reducible refine (isName_is HN _).mono ?_); rintro e w' ⟨rfl, rfl⟩)
    all_goals
      go_ret
      first
        | exact ⟨rfl, hW⟩
        | exact ⟨rfl, balloc _ _⟩
set_option maxHeartbeats 4000000 in
set_option maxRecDepth 10000 in
theorem constant_any (c : Cn) (w : World) : Calls Try.prog 58 #[cnV c] w fun e w' => e = .returned (.int .i64 (constant c)) ∧ Below w.heap.size w w' := by
  obtain ⟨k, n, re, im, cl, nm⟩ := c
  by_cases k1 : k = 1
  · subst k1; exact constant_1 n re im cl nm w
  by_cases k2 : k = 2
  · subst k2; exact constant_2 n re im cl nm w
  by_cases k3 : k = 3
  · subst k3; exact constant_3 n re im cl nm w
  by_cases k4 : k = 4
  · subst k4; exact constant_4 n re im cl nm w
  by_cases k5 : k = 5
  · subst k5; exact constant_5 n re im cl nm w
  have hu : constant ⟨k, n, re, im, cl, nm⟩ = 51 := by
    unfold constant
    simp only
    rw [if_pos (by omega)]
  rw [hu]
  clear hu
  have HC : True := trivial
  have HN : True := trivial
  by_cases hk : k < 1
  · go_enter Try.func58, Try.ntmps58
    go_wp2
    go_ret
    exact ⟨rfl, balloc _ _⟩
  · have hk' : 5 < k := by omega
    go_enter Try.func58, Try.ntmps58
    go_wp2
    go_ret
    exact ⟨rfl, balloc _ _⟩
theorem constant_is {c : Cn} {k : Int} (h : Hid (constant c = k)) (w : World) : Calls Try.prog 58 #[cnV c] w fun e w' => e = .returned (.int .i64 k) ∧ Below w.heap.size w w' := by
  have := constant_any c w
  rwa [h.out] at this
end Go.Proofs.Ytpdjkclacbgneaa
