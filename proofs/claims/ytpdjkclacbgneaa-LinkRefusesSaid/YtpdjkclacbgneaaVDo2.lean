/- verify's does: the ops that push, take, or do nothing to the locals. -/
import Derived.Test.YtpdjkclacbgneaaVDo
set_option linter.unusedVariables false
set_option linter.unusedSimpArgs false
namespace Go.Proofs.Ytpdjkclacbgneaa
open Go.RowKit Go.Shelf Go.Proofs.YtpdjkclacbgneaaW.PrintWords Go.Proofs.Ytpdjkclacbgneaa.Pl

theorem bad_len (r : Rn) (e : Int) : (bad r e).stack = r.stack := by unfold bad; split <;> rfl
theorem popR_len (r : Rn) : (popR r).stack.length ≤ r.stack.length := by
  unfold popR
  split
  · rw [bad_len]; exact Nat.le_refl _
  · simp only [List.length_take]; omega
theorem takes_len (p : Pg) (r : Rn) (t : Ty) : (takes p r t).stack.length ≤ r.stack.length := by
  unfold takes
  split
  · rw [bad_len]; exact popR_len r
  · exact popR_len r
theorem takesN_len (p : Pg) (t : Ty) : ∀ (n : Nat) (r : Rn), (takesN p t n r).stack.length ≤ r.stack.length
  | 0, r => Nat.le_refl _
  | n + 1, r => Nat.le_trans (takesN_len p t n _) (takes_len p r t)
theorem EnvAt.of_only {B rb fb pb : Nat} {w W : World} {p : Pg} {r : Rn} (E : EnvAt B w fb pb p) (h : RunAt B w rb fb r) (hg : w.grownBy W (some rb)) : EnvAt B W fb pb p := E.below (only_bel hg h.size h.le)
theorem ints1_any {B : Nat} {w : World} {rb fb pb : Nat} {p : Pg} {r : Rn} (h : RunAt B w rb fb r) (E : EnvAt B w fb pb p) :
    Calls Try.prog 109 #[.pointer (some ⟨rb, 0, none⟩), .int .i64 1] w fun x w' => x = .returned (.tuple #[]) ∧ RunAt B w' rb fb (takesN p (kindT 1) 1 r) ∧ w.grownBy w' (some rb) := ints_any h E 1 (by decide)
theorem ints2_any {B : Nat} {w : World} {rb fb pb : Nat} {p : Pg} {r : Rn} (h : RunAt B w rb fb r) (E : EnvAt B w fb pb p) :
    Calls Try.prog 109 #[.pointer (some ⟨rb, 0, none⟩), .int .i64 2] w fun x w' => x = .returned (.tuple #[]) ∧ RunAt B w' rb fb (takesN p (kindT 1) 2 r) ∧ w.grownBy w' (some rb) := ints_any h E 2 (by decide)
theorem cplxs1_any {B : Nat} {w : World} {rb fb pb : Nat} {p : Pg} {r : Rn} (h : RunAt B w rb fb r) (E : EnvAt B w fb pb p) :
    Calls Try.prog 110 #[.pointer (some ⟨rb, 0, none⟩), .int .i64 1] w fun x w' => x = .returned (.tuple #[]) ∧ RunAt B w' rb fb (takesN p (kindT 2) 1 r) ∧ w.grownBy w' (some rb) := cplxs_any h E 1 (by decide)
theorem cplxs2_any {B : Nat} {w : World} {rb fb pb : Nat} {p : Pg} {r : Rn} (h : RunAt B w rb fb r) (E : EnvAt B w fb pb p) :
    Calls Try.prog 110 #[.pointer (some ⟨rb, 0, none⟩), .int .i64 2] w fun x w' => x = .returned (.tuple #[]) ∧ RunAt B w' rb fb (takesN p (kindT 2) 2 r) ∧ w.grownBy w' (some rb) := cplxs_any h E 2 (by decide)
set_option maxRecDepth 10000 in
set_option maxHeartbeats 400000 in
theorem does_1 {B : Nat} {w : World} {rb fb pb : Nat} {p : Pg} {r : Rn} (h : RunAt B w rb fb r) (E : EnvAt B w fb pb p) (hl : r.stack.length ≤ 900) (a : Int) :
    Calls Try.prog 80 #[.pointer (some ⟨rb, 0, none⟩), .agg #[.int .i64 1, .int .i64 a]] w fun x w' => x = .returned (.tuple #[]) ∧ RunAt B w' rb fb (push r (kindT 1)) ∧ Below B w w' := by
  have hs := h.size
  have hle := h.le
  have H := Aside0.mk h
  have E := Aside0.mk E
  have HL := Lib.hid hl
  clear h hl
  go_enter Try.func80, Try.ntmps80
  go_wp2_with fail
  refine (kind_any 1 _).mono ?_
  rintro e w5 ⟨rfl, rfl⟩
  go_wp2_with fail
  refine (push_any (H.out.below (bthen (balloc w _) (balloc _ _))) (by have := HL.out; omega) (kindT 1)).mono ?_
  rintro e w6 ⟨rfl, hr6, hb6⟩
  have R6 := Aside0.mk hr6
  have B6 := Aside0.mk (((bthen (balloc w _) (balloc _ _)).mono hs).trans hb6)
  clear hr6 hb6
  go_wp2
  go_end0
  exact ⟨rfl, R6.out, B6.out⟩
set_option maxRecDepth 10000 in
set_option maxHeartbeats 400000 in
theorem does_2 {B : Nat} {w : World} {rb fb pb : Nat} {p : Pg} {r : Rn} (h : RunAt B w rb fb r) (E : EnvAt B w fb pb p) (hl : r.stack.length ≤ 900) (a : Int) :
    Calls Try.prog 80 #[.pointer (some ⟨rb, 0, none⟩), .agg #[.int .i64 2, .int .i64 a]] w fun x w' => x = .returned (.tuple #[]) ∧ RunAt B w' rb fb (push r (kindT 2)) ∧ Below B w w' := by
  have hs := h.size
  have hle := h.le
  have H := Aside0.mk h
  have E := Aside0.mk E
  have HL := Lib.hid hl
  clear h hl
  go_enter Try.func80, Try.ntmps80
  go_wp2_with fail
  refine (kind_any 2 _).mono ?_
  rintro e w5 ⟨rfl, rfl⟩
  go_wp2_with fail
  refine (push_any (H.out.below (bthen (balloc w _) (balloc _ _))) (by have := HL.out; omega) (kindT 2)).mono ?_
  rintro e w6 ⟨rfl, hr6, hb6⟩
  have R6 := Aside0.mk hr6
  have B6 := Aside0.mk (((bthen (balloc w _) (balloc _ _)).mono hs).trans hb6)
  clear hr6 hb6
  go_wp2
  go_end0
  exact ⟨rfl, R6.out, B6.out⟩
set_option maxRecDepth 10000 in
set_option maxHeartbeats 400000 in
theorem does_3 {B : Nat} {w : World} {rb fb pb : Nat} {p : Pg} {r : Rn} (h : RunAt B w rb fb r) (E : EnvAt B w fb pb p) (hl : r.stack.length ≤ 900) (a : Int) :
    Calls Try.prog 80 #[.pointer (some ⟨rb, 0, none⟩), .agg #[.int .i64 3, .int .i64 a]] w fun x w' => x = .returned (.tuple #[]) ∧ RunAt B w' rb fb (push r (kindT 5)) ∧ Below B w w' := by
  have hs := h.size
  have hle := h.le
  have H := Aside0.mk h
  have E := Aside0.mk E
  have HL := Lib.hid hl
  clear h hl
  go_enter Try.func80, Try.ntmps80
  go_wp2_with fail
  refine (kind_any 5 _).mono ?_
  rintro e w5 ⟨rfl, rfl⟩
  go_wp2_with fail
  refine (push_any (H.out.below (bthen (balloc w _) (balloc _ _))) (by have := HL.out; omega) (kindT 5)).mono ?_
  rintro e w6 ⟨rfl, hr6, hb6⟩
  have R6 := Aside0.mk hr6
  have B6 := Aside0.mk (((bthen (balloc w _) (balloc _ _)).mono hs).trans hb6)
  clear hr6 hb6
  go_wp2
  go_end0
  exact ⟨rfl, R6.out, B6.out⟩
set_option maxRecDepth 10000 in
set_option maxHeartbeats 400000 in
theorem does_8 {B : Nat} {w : World} {rb fb pb : Nat} {p : Pg} {r : Rn} (h : RunAt B w rb fb r) (E : EnvAt B w fb pb p) (hl : r.stack.length ≤ 900) (a : Int) :
    Calls Try.prog 80 #[.pointer (some ⟨rb, 0, none⟩), .agg #[.int .i64 8, .int .i64 a]] w fun x w' => x = .returned (.tuple #[]) ∧ RunAt B w' rb fb (push (takesN p (kindT 1) 2 r) (kindT 1)) ∧ Below B w w' := by
  have hs := h.size
  have hle := h.le
  have H := Aside0.mk h
  have E := Aside0.mk E
  have HL := Lib.hid hl
  clear h hl
  go_enter Try.func80, Try.ntmps80
  go_wp2_with fail
  refine (ints2_any (H.out.below (balloc w _)) (E.out.below ((balloc w _).mono hs))).mono ?_
  rintro e w1 ⟨rfl, hr1, hg1⟩
  have R1 := Aside0.mk hr1
  have B1 := Aside0.mk (((balloc w _).mono hs).trans (only_bel hg1 (H.out.below (balloc w _)).size hle))
  clear hr1 hg1
  go_wp2_with fail
  refine (kind_any 1 _).mono ?_
  rintro e w5 ⟨rfl, rfl⟩
  go_wp2_with fail
  refine (push_any (R1.out.below (balloc w1 _)) (by have := HL.out; have := takesN_len p (kindT 1) 2 r; omega) (kindT 1)).mono ?_
  rintro e w6 ⟨rfl, hr6, hb6⟩
  have R6 := Aside0.mk hr6
  have B6 := Aside0.mk ((B1.out.trans ((balloc w1 _).mono R1.out.size)).trans hb6)
  clear hr6 hb6
  go_wp2
  go_end0
  exact ⟨rfl, R6.out, B6.out⟩
set_option maxRecDepth 10000 in
set_option maxHeartbeats 400000 in
theorem does_9 {B : Nat} {w : World} {rb fb pb : Nat} {p : Pg} {r : Rn} (h : RunAt B w rb fb r) (E : EnvAt B w fb pb p) (hl : r.stack.length ≤ 900) (a : Int) :
    Calls Try.prog 80 #[.pointer (some ⟨rb, 0, none⟩), .agg #[.int .i64 9, .int .i64 a]] w fun x w' => x = .returned (.tuple #[]) ∧ RunAt B w' rb fb (push (takesN p (kindT 1) 2 r) (kindT 1)) ∧ Below B w w' := by
  have hs := h.size
  have hle := h.le
  have H := Aside0.mk h
  have E := Aside0.mk E
  have HL := Lib.hid hl
  clear h hl
  go_enter Try.func80, Try.ntmps80
  go_wp2_with fail
  refine (ints2_any (H.out.below (balloc w _)) (E.out.below ((balloc w _).mono hs))).mono ?_
  rintro e w1 ⟨rfl, hr1, hg1⟩
  have R1 := Aside0.mk hr1
  have B1 := Aside0.mk (((balloc w _).mono hs).trans (only_bel hg1 (H.out.below (balloc w _)).size hle))
  clear hr1 hg1
  go_wp2_with fail
  refine (kind_any 1 _).mono ?_
  rintro e w5 ⟨rfl, rfl⟩
  go_wp2_with fail
  refine (push_any (R1.out.below (balloc w1 _)) (by have := HL.out; have := takesN_len p (kindT 1) 2 r; omega) (kindT 1)).mono ?_
  rintro e w6 ⟨rfl, hr6, hb6⟩
  have R6 := Aside0.mk hr6
  have B6 := Aside0.mk ((B1.out.trans ((balloc w1 _).mono R1.out.size)).trans hb6)
  clear hr6 hb6
  go_wp2
  go_end0
  exact ⟨rfl, R6.out, B6.out⟩
set_option maxRecDepth 10000 in
set_option maxHeartbeats 400000 in
theorem does_10 {B : Nat} {w : World} {rb fb pb : Nat} {p : Pg} {r : Rn} (h : RunAt B w rb fb r) (E : EnvAt B w fb pb p) (hl : r.stack.length ≤ 900) (a : Int) :
    Calls Try.prog 80 #[.pointer (some ⟨rb, 0, none⟩), .agg #[.int .i64 10, .int .i64 a]] w fun x w' => x = .returned (.tuple #[]) ∧ RunAt B w' rb fb (push (takesN p (kindT 1) 2 r) (kindT 1)) ∧ Below B w w' := by
  have hs := h.size
  have hle := h.le
  have H := Aside0.mk h
  have E := Aside0.mk E
  have HL := Lib.hid hl
  clear h hl
  go_enter Try.func80, Try.ntmps80
  go_wp2_with fail
  refine (ints2_any (H.out.below (balloc w _)) (E.out.below ((balloc w _).mono hs))).mono ?_
  rintro e w1 ⟨rfl, hr1, hg1⟩
  have R1 := Aside0.mk hr1
  have B1 := Aside0.mk (((balloc w _).mono hs).trans (only_bel hg1 (H.out.below (balloc w _)).size hle))
  clear hr1 hg1
  go_wp2_with fail
  refine (kind_any 1 _).mono ?_
  rintro e w5 ⟨rfl, rfl⟩
  go_wp2_with fail
  refine (push_any (R1.out.below (balloc w1 _)) (by have := HL.out; have := takesN_len p (kindT 1) 2 r; omega) (kindT 1)).mono ?_
  rintro e w6 ⟨rfl, hr6, hb6⟩
  have R6 := Aside0.mk hr6
  have B6 := Aside0.mk ((B1.out.trans ((balloc w1 _).mono R1.out.size)).trans hb6)
  clear hr6 hb6
  go_wp2
  go_end0
  exact ⟨rfl, R6.out, B6.out⟩
set_option maxRecDepth 10000 in
set_option maxHeartbeats 400000 in
theorem does_11 {B : Nat} {w : World} {rb fb pb : Nat} {p : Pg} {r : Rn} (h : RunAt B w rb fb r) (E : EnvAt B w fb pb p) (hl : r.stack.length ≤ 900) (a : Int) :
    Calls Try.prog 80 #[.pointer (some ⟨rb, 0, none⟩), .agg #[.int .i64 11, .int .i64 a]] w fun x w' => x = .returned (.tuple #[]) ∧ RunAt B w' rb fb (push (takesN p (kindT 1) 2 r) (kindT 1)) ∧ Below B w w' := by
  have hs := h.size
  have hle := h.le
  have H := Aside0.mk h
  have E := Aside0.mk E
  have HL := Lib.hid hl
  clear h hl
  go_enter Try.func80, Try.ntmps80
  go_wp2_with fail
  refine (ints2_any (H.out.below (balloc w _)) (E.out.below ((balloc w _).mono hs))).mono ?_
  rintro e w1 ⟨rfl, hr1, hg1⟩
  have R1 := Aside0.mk hr1
  have B1 := Aside0.mk (((balloc w _).mono hs).trans (only_bel hg1 (H.out.below (balloc w _)).size hle))
  clear hr1 hg1
  go_wp2_with fail
  refine (kind_any 1 _).mono ?_
  rintro e w5 ⟨rfl, rfl⟩
  go_wp2_with fail
  refine (push_any (R1.out.below (balloc w1 _)) (by have := HL.out; have := takesN_len p (kindT 1) 2 r; omega) (kindT 1)).mono ?_
  rintro e w6 ⟨rfl, hr6, hb6⟩
  have R6 := Aside0.mk hr6
  have B6 := Aside0.mk ((B1.out.trans ((balloc w1 _).mono R1.out.size)).trans hb6)
  clear hr6 hb6
  go_wp2
  go_end0
  exact ⟨rfl, R6.out, B6.out⟩
set_option maxRecDepth 10000 in
set_option maxHeartbeats 400000 in
theorem does_12 {B : Nat} {w : World} {rb fb pb : Nat} {p : Pg} {r : Rn} (h : RunAt B w rb fb r) (E : EnvAt B w fb pb p) (hl : r.stack.length ≤ 900) (a : Int) :
    Calls Try.prog 80 #[.pointer (some ⟨rb, 0, none⟩), .agg #[.int .i64 12, .int .i64 a]] w fun x w' => x = .returned (.tuple #[]) ∧ RunAt B w' rb fb (push (takesN p (kindT 1) 2 r) (kindT 1)) ∧ Below B w w' := by
  have hs := h.size
  have hle := h.le
  have H := Aside0.mk h
  have E := Aside0.mk E
  have HL := Lib.hid hl
  clear h hl
  go_enter Try.func80, Try.ntmps80
  go_wp2_with fail
  refine (ints2_any (H.out.below (balloc w _)) (E.out.below ((balloc w _).mono hs))).mono ?_
  rintro e w1 ⟨rfl, hr1, hg1⟩
  have R1 := Aside0.mk hr1
  have B1 := Aside0.mk (((balloc w _).mono hs).trans (only_bel hg1 (H.out.below (balloc w _)).size hle))
  clear hr1 hg1
  go_wp2_with fail
  refine (kind_any 1 _).mono ?_
  rintro e w5 ⟨rfl, rfl⟩
  go_wp2_with fail
  refine (push_any (R1.out.below (balloc w1 _)) (by have := HL.out; have := takesN_len p (kindT 1) 2 r; omega) (kindT 1)).mono ?_
  rintro e w6 ⟨rfl, hr6, hb6⟩
  have R6 := Aside0.mk hr6
  have B6 := Aside0.mk ((B1.out.trans ((balloc w1 _).mono R1.out.size)).trans hb6)
  clear hr6 hb6
  go_wp2
  go_end0
  exact ⟨rfl, R6.out, B6.out⟩
set_option maxRecDepth 10000 in
set_option maxHeartbeats 400000 in
theorem does_14 {B : Nat} {w : World} {rb fb pb : Nat} {p : Pg} {r : Rn} (h : RunAt B w rb fb r) (E : EnvAt B w fb pb p) (hl : r.stack.length ≤ 900) (a : Int) :
    Calls Try.prog 80 #[.pointer (some ⟨rb, 0, none⟩), .agg #[.int .i64 14, .int .i64 a]] w fun x w' => x = .returned (.tuple #[]) ∧ RunAt B w' rb fb (push (takesN p (kindT 1) 2 r) (kindT 1)) ∧ Below B w w' := by
  have hs := h.size
  have hle := h.le
  have H := Aside0.mk h
  have E := Aside0.mk E
  have HL := Lib.hid hl
  clear h hl
  go_enter Try.func80, Try.ntmps80
  go_wp2_with fail
  refine (ints2_any (H.out.below (balloc w _)) (E.out.below ((balloc w _).mono hs))).mono ?_
  rintro e w1 ⟨rfl, hr1, hg1⟩
  have R1 := Aside0.mk hr1
  have B1 := Aside0.mk (((balloc w _).mono hs).trans (only_bel hg1 (H.out.below (balloc w _)).size hle))
  clear hr1 hg1
  go_wp2_with fail
  refine (kind_any 1 _).mono ?_
  rintro e w5 ⟨rfl, rfl⟩
  go_wp2_with fail
  refine (push_any (R1.out.below (balloc w1 _)) (by have := HL.out; have := takesN_len p (kindT 1) 2 r; omega) (kindT 1)).mono ?_
  rintro e w6 ⟨rfl, hr6, hb6⟩
  have R6 := Aside0.mk hr6
  have B6 := Aside0.mk ((B1.out.trans ((balloc w1 _).mono R1.out.size)).trans hb6)
  clear hr6 hb6
  go_wp2
  go_end0
  exact ⟨rfl, R6.out, B6.out⟩
set_option maxRecDepth 10000 in
set_option maxHeartbeats 400000 in
theorem does_15 {B : Nat} {w : World} {rb fb pb : Nat} {p : Pg} {r : Rn} (h : RunAt B w rb fb r) (E : EnvAt B w fb pb p) (hl : r.stack.length ≤ 900) (a : Int) :
    Calls Try.prog 80 #[.pointer (some ⟨rb, 0, none⟩), .agg #[.int .i64 15, .int .i64 a]] w fun x w' => x = .returned (.tuple #[]) ∧ RunAt B w' rb fb (push (takesN p (kindT 1) 2 r) (kindT 1)) ∧ Below B w w' := by
  have hs := h.size
  have hle := h.le
  have H := Aside0.mk h
  have E := Aside0.mk E
  have HL := Lib.hid hl
  clear h hl
  go_enter Try.func80, Try.ntmps80
  go_wp2_with fail
  refine (ints2_any (H.out.below (balloc w _)) (E.out.below ((balloc w _).mono hs))).mono ?_
  rintro e w1 ⟨rfl, hr1, hg1⟩
  have R1 := Aside0.mk hr1
  have B1 := Aside0.mk (((balloc w _).mono hs).trans (only_bel hg1 (H.out.below (balloc w _)).size hle))
  clear hr1 hg1
  go_wp2_with fail
  refine (kind_any 1 _).mono ?_
  rintro e w5 ⟨rfl, rfl⟩
  go_wp2_with fail
  refine (push_any (R1.out.below (balloc w1 _)) (by have := HL.out; have := takesN_len p (kindT 1) 2 r; omega) (kindT 1)).mono ?_
  rintro e w6 ⟨rfl, hr6, hb6⟩
  have R6 := Aside0.mk hr6
  have B6 := Aside0.mk ((B1.out.trans ((balloc w1 _).mono R1.out.size)).trans hb6)
  clear hr6 hb6
  go_wp2
  go_end0
  exact ⟨rfl, R6.out, B6.out⟩
set_option maxRecDepth 10000 in
set_option maxHeartbeats 400000 in
theorem does_13 {B : Nat} {w : World} {rb fb pb : Nat} {p : Pg} {r : Rn} (h : RunAt B w rb fb r) (E : EnvAt B w fb pb p) (hl : r.stack.length ≤ 900) (a : Int) :
    Calls Try.prog 80 #[.pointer (some ⟨rb, 0, none⟩), .agg #[.int .i64 13, .int .i64 a]] w fun x w' => x = .returned (.tuple #[]) ∧ RunAt B w' rb fb (push (takesN p (kindT 1) 1 r) (kindT 1)) ∧ Below B w w' := by
  have hs := h.size
  have hle := h.le
  have H := Aside0.mk h
  have E := Aside0.mk E
  have HL := Lib.hid hl
  clear h hl
  go_enter Try.func80, Try.ntmps80
  go_wp2_with fail
  refine (ints1_any (H.out.below (balloc w _)) (E.out.below ((balloc w _).mono hs))).mono ?_
  rintro e w1 ⟨rfl, hr1, hg1⟩
  have R1 := Aside0.mk hr1
  have B1 := Aside0.mk (((balloc w _).mono hs).trans (only_bel hg1 (H.out.below (balloc w _)).size hle))
  obtain ⟨z0, z1⟩ := Bx.two ⟨blk_grown (blk_new w (.cells #[.int .i64 13, .int .i64 a] 26)) hg1 (by have := H.out.lt; intro e; cases e; omega)⟩
  clear hr1 hg1
  go_wp2_with fail
  refine (kind_any 1 _).mono ?_
  rintro e w5 ⟨rfl, rfl⟩
  go_wp2_with fail
  refine (push_any (R1.out.below (balloc w1 _)) (by have := HL.out; have := takesN_len p (kindT 1) 1 r; omega) (kindT 1)).mono ?_
  rintro e w6 ⟨rfl, hr6, hb6⟩
  have R6 := Aside0.mk hr6
  have B6 := Aside0.mk ((B1.out.trans ((balloc w1 _).mono R1.out.size)).trans hb6)
  clear hr6 hb6
  go_wp2
  go_end0
  exact ⟨rfl, R6.out, B6.out⟩
set_option maxRecDepth 10000 in
set_option maxHeartbeats 400000 in
theorem does_16 {B : Nat} {w : World} {rb fb pb : Nat} {p : Pg} {r : Rn} (h : RunAt B w rb fb r) (E : EnvAt B w fb pb p) (hl : r.stack.length ≤ 900) (a : Int) :
    Calls Try.prog 80 #[.pointer (some ⟨rb, 0, none⟩), .agg #[.int .i64 16, .int .i64 a]] w fun x w' => x = .returned (.tuple #[]) ∧ RunAt B w' rb fb (push (takesN p (kindT 2) 2 r) (kindT 2)) ∧ Below B w w' := by
  have hs := h.size
  have hle := h.le
  have H := Aside0.mk h
  have E := Aside0.mk E
  have HL := Lib.hid hl
  clear h hl
  go_enter Try.func80, Try.ntmps80
  go_wp2_with fail
  refine (cplxs2_any (H.out.below (balloc w _)) (E.out.below ((balloc w _).mono hs))).mono ?_
  rintro e w1 ⟨rfl, hr1, hg1⟩
  have R1 := Aside0.mk hr1
  have B1 := Aside0.mk (((balloc w _).mono hs).trans (only_bel hg1 (H.out.below (balloc w _)).size hle))
  clear hr1 hg1
  go_wp2_with fail
  refine (kind_any 2 _).mono ?_
  rintro e w5 ⟨rfl, rfl⟩
  go_wp2_with fail
  refine (push_any (R1.out.below (balloc w1 _)) (by have := HL.out; have := takesN_len p (kindT 2) 2 r; omega) (kindT 2)).mono ?_
  rintro e w6 ⟨rfl, hr6, hb6⟩
  have R6 := Aside0.mk hr6
  have B6 := Aside0.mk ((B1.out.trans ((balloc w1 _).mono R1.out.size)).trans hb6)
  clear hr6 hb6
  go_wp2
  go_end0
  exact ⟨rfl, R6.out, B6.out⟩
set_option maxRecDepth 10000 in
set_option maxHeartbeats 400000 in
theorem does_17 {B : Nat} {w : World} {rb fb pb : Nat} {p : Pg} {r : Rn} (h : RunAt B w rb fb r) (E : EnvAt B w fb pb p) (hl : r.stack.length ≤ 900) (a : Int) :
    Calls Try.prog 80 #[.pointer (some ⟨rb, 0, none⟩), .agg #[.int .i64 17, .int .i64 a]] w fun x w' => x = .returned (.tuple #[]) ∧ RunAt B w' rb fb (push (takesN p (kindT 2) 2 r) (kindT 2)) ∧ Below B w w' := by
  have hs := h.size
  have hle := h.le
  have H := Aside0.mk h
  have E := Aside0.mk E
  have HL := Lib.hid hl
  clear h hl
  go_enter Try.func80, Try.ntmps80
  go_wp2_with fail
  refine (cplxs2_any (H.out.below (balloc w _)) (E.out.below ((balloc w _).mono hs))).mono ?_
  rintro e w1 ⟨rfl, hr1, hg1⟩
  have R1 := Aside0.mk hr1
  have B1 := Aside0.mk (((balloc w _).mono hs).trans (only_bel hg1 (H.out.below (balloc w _)).size hle))
  clear hr1 hg1
  go_wp2_with fail
  refine (kind_any 2 _).mono ?_
  rintro e w5 ⟨rfl, rfl⟩
  go_wp2_with fail
  refine (push_any (R1.out.below (balloc w1 _)) (by have := HL.out; have := takesN_len p (kindT 2) 2 r; omega) (kindT 2)).mono ?_
  rintro e w6 ⟨rfl, hr6, hb6⟩
  have R6 := Aside0.mk hr6
  have B6 := Aside0.mk ((B1.out.trans ((balloc w1 _).mono R1.out.size)).trans hb6)
  clear hr6 hb6
  go_wp2
  go_end0
  exact ⟨rfl, R6.out, B6.out⟩
set_option maxRecDepth 10000 in
set_option maxHeartbeats 400000 in
theorem does_18 {B : Nat} {w : World} {rb fb pb : Nat} {p : Pg} {r : Rn} (h : RunAt B w rb fb r) (E : EnvAt B w fb pb p) (hl : r.stack.length ≤ 900) (a : Int) :
    Calls Try.prog 80 #[.pointer (some ⟨rb, 0, none⟩), .agg #[.int .i64 18, .int .i64 a]] w fun x w' => x = .returned (.tuple #[]) ∧ RunAt B w' rb fb (push (takesN p (kindT 2) 2 r) (kindT 2)) ∧ Below B w w' := by
  have hs := h.size
  have hle := h.le
  have H := Aside0.mk h
  have E := Aside0.mk E
  have HL := Lib.hid hl
  clear h hl
  go_enter Try.func80, Try.ntmps80
  go_wp2_with fail
  refine (cplxs2_any (H.out.below (balloc w _)) (E.out.below ((balloc w _).mono hs))).mono ?_
  rintro e w1 ⟨rfl, hr1, hg1⟩
  have R1 := Aside0.mk hr1
  have B1 := Aside0.mk (((balloc w _).mono hs).trans (only_bel hg1 (H.out.below (balloc w _)).size hle))
  clear hr1 hg1
  go_wp2_with fail
  refine (kind_any 2 _).mono ?_
  rintro e w5 ⟨rfl, rfl⟩
  go_wp2_with fail
  refine (push_any (R1.out.below (balloc w1 _)) (by have := HL.out; have := takesN_len p (kindT 2) 2 r; omega) (kindT 2)).mono ?_
  rintro e w6 ⟨rfl, hr6, hb6⟩
  have R6 := Aside0.mk hr6
  have B6 := Aside0.mk ((B1.out.trans ((balloc w1 _).mono R1.out.size)).trans hb6)
  clear hr6 hb6
  go_wp2
  go_end0
  exact ⟨rfl, R6.out, B6.out⟩
set_option maxRecDepth 10000 in
set_option maxHeartbeats 400000 in
theorem does_19 {B : Nat} {w : World} {rb fb pb : Nat} {p : Pg} {r : Rn} (h : RunAt B w rb fb r) (E : EnvAt B w fb pb p) (hl : r.stack.length ≤ 900) (a : Int) :
    Calls Try.prog 80 #[.pointer (some ⟨rb, 0, none⟩), .agg #[.int .i64 19, .int .i64 a]] w fun x w' => x = .returned (.tuple #[]) ∧ RunAt B w' rb fb (push (takesN p (kindT 2) 1 r) (kindT 2)) ∧ Below B w w' := by
  have hs := h.size
  have hle := h.le
  have H := Aside0.mk h
  have E := Aside0.mk E
  have HL := Lib.hid hl
  clear h hl
  go_enter Try.func80, Try.ntmps80
  go_wp2_with fail
  refine (cplxs1_any (H.out.below (balloc w _)) (E.out.below ((balloc w _).mono hs))).mono ?_
  rintro e w1 ⟨rfl, hr1, hg1⟩
  have R1 := Aside0.mk hr1
  have B1 := Aside0.mk (((balloc w _).mono hs).trans (only_bel hg1 (H.out.below (balloc w _)).size hle))
  clear hr1 hg1
  go_wp2_with fail
  refine (kind_any 2 _).mono ?_
  rintro e w5 ⟨rfl, rfl⟩
  go_wp2_with fail
  refine (push_any (R1.out.below (balloc w1 _)) (by have := HL.out; have := takesN_len p (kindT 2) 1 r; omega) (kindT 2)).mono ?_
  rintro e w6 ⟨rfl, hr6, hb6⟩
  have R6 := Aside0.mk hr6
  have B6 := Aside0.mk ((B1.out.trans ((balloc w1 _).mono R1.out.size)).trans hb6)
  clear hr6 hb6
  go_wp2
  go_end0
  exact ⟨rfl, R6.out, B6.out⟩
set_option maxRecDepth 10000 in
set_option maxHeartbeats 400000 in
theorem does_20 {B : Nat} {w : World} {rb fb pb : Nat} {p : Pg} {r : Rn} (h : RunAt B w rb fb r) (E : EnvAt B w fb pb p) (hl : r.stack.length ≤ 900) (a : Int) :
    Calls Try.prog 80 #[.pointer (some ⟨rb, 0, none⟩), .agg #[.int .i64 20, .int .i64 a]] w fun x w' => x = .returned (.tuple #[]) ∧ RunAt B w' rb fb (push (takesN p (kindT 2) 2 r) (kindT 1)) ∧ Below B w w' := by
  have hs := h.size
  have hle := h.le
  have H := Aside0.mk h
  have E := Aside0.mk E
  have HL := Lib.hid hl
  clear h hl
  go_enter Try.func80, Try.ntmps80
  go_wp2_with fail
  refine (cplxs2_any (H.out.below (balloc w _)) (E.out.below ((balloc w _).mono hs))).mono ?_
  rintro e w1 ⟨rfl, hr1, hg1⟩
  have R1 := Aside0.mk hr1
  have B1 := Aside0.mk (((balloc w _).mono hs).trans (only_bel hg1 (H.out.below (balloc w _)).size hle))
  clear hr1 hg1
  go_wp2_with fail
  refine (kind_any 1 _).mono ?_
  rintro e w5 ⟨rfl, rfl⟩
  go_wp2_with fail
  refine (push_any (R1.out.below (balloc w1 _)) (by have := HL.out; have := takesN_len p (kindT 2) 2 r; omega) (kindT 1)).mono ?_
  rintro e w6 ⟨rfl, hr6, hb6⟩
  have R6 := Aside0.mk hr6
  have B6 := Aside0.mk ((B1.out.trans ((balloc w1 _).mono R1.out.size)).trans hb6)
  clear hr6 hb6
  go_wp2
  go_end0
  exact ⟨rfl, R6.out, B6.out⟩
set_option maxRecDepth 10000 in
set_option maxHeartbeats 400000 in
theorem does_23 {B : Nat} {w : World} {rb fb pb : Nat} {p : Pg} {r : Rn} (h : RunAt B w rb fb r) (E : EnvAt B w fb pb p) (hl : r.stack.length ≤ 900) (a : Int) :
    Calls Try.prog 80 #[.pointer (some ⟨rb, 0, none⟩), .agg #[.int .i64 23, .int .i64 a]] w fun x w' => x = .returned (.tuple #[]) ∧ RunAt B w' rb fb (takesN p (kindT 1) 1 r) ∧ Below B w w' := by
  have hs := h.size
  have hle := h.le
  have H := Aside0.mk h
  have E := Aside0.mk E
  have HL := Lib.hid hl
  clear h hl
  go_enter Try.func80, Try.ntmps80
  go_wp2_with fail
  refine (ints1_any (H.out.below (balloc w _)) (E.out.below ((balloc w _).mono hs))).mono ?_
  rintro e w1 ⟨rfl, hr1, hg1⟩
  have R1 := Aside0.mk hr1
  have B1 := Aside0.mk (((balloc w _).mono hs).trans (only_bel hg1 (H.out.below (balloc w _)).size hle))
  obtain ⟨z0, z1⟩ := Bx.two ⟨blk_grown (blk_new w (.cells #[.int .i64 23, .int .i64 a] 26)) hg1 (by have := H.out.lt; intro e; cases e; omega)⟩
  clear hr1 hg1
  go_wp2
  go_end0
  exact ⟨rfl, R1.out, B1.out⟩
set_option maxRecDepth 10000 in
set_option maxHeartbeats 400000 in
theorem does_24 {B : Nat} {w : World} {rb fb pb : Nat} {p : Pg} {r : Rn} (h : RunAt B w rb fb r) (E : EnvAt B w fb pb p) (hl : r.stack.length ≤ 900) (a : Int) :
    Calls Try.prog 80 #[.pointer (some ⟨rb, 0, none⟩), .agg #[.int .i64 24, .int .i64 a]] w fun x w' => x = .returned (.tuple #[]) ∧ RunAt B w' rb fb (takesN p (kindT 1) 1 r) ∧ Below B w w' := by
  have hs := h.size
  have hle := h.le
  have H := Aside0.mk h
  have E := Aside0.mk E
  have HL := Lib.hid hl
  clear h hl
  go_enter Try.func80, Try.ntmps80
  go_wp2_with fail
  refine (ints1_any (H.out.below (balloc w _)) (E.out.below ((balloc w _).mono hs))).mono ?_
  rintro e w1 ⟨rfl, hr1, hg1⟩
  have R1 := Aside0.mk hr1
  have B1 := Aside0.mk (((balloc w _).mono hs).trans (only_bel hg1 (H.out.below (balloc w _)).size hle))
  obtain ⟨z0, z1⟩ := Bx.two ⟨blk_grown (blk_new w (.cells #[.int .i64 24, .int .i64 a] 26)) hg1 (by have := H.out.lt; intro e; cases e; omega)⟩
  clear hr1 hg1
  go_wp2
  go_end0
  exact ⟨rfl, R1.out, B1.out⟩
set_option maxRecDepth 10000 in
set_option maxHeartbeats 400000 in
theorem does_44 {B : Nat} {w : World} {rb fb pb : Nat} {p : Pg} {r : Rn} (h : RunAt B w rb fb r) (E : EnvAt B w fb pb p) (hl : r.stack.length ≤ 900) (a : Int) :
    Calls Try.prog 80 #[.pointer (some ⟨rb, 0, none⟩), .agg #[.int .i64 44, .int .i64 a]] w fun x w' => x = .returned (.tuple #[]) ∧ RunAt B w' rb fb (takesN p (kindT 1) 1 r) ∧ Below B w w' := by
  have hs := h.size
  have hle := h.le
  have H := Aside0.mk h
  have E := Aside0.mk E
  have HL := Lib.hid hl
  clear h hl
  go_enter Try.func80, Try.ntmps80
  go_wp2_with fail
  refine (ints1_any (H.out.below (balloc w _)) (E.out.below ((balloc w _).mono hs))).mono ?_
  rintro e w1 ⟨rfl, hr1, hg1⟩
  have R1 := Aside0.mk hr1
  have B1 := Aside0.mk (((balloc w _).mono hs).trans (only_bel hg1 (H.out.below (balloc w _)).size hle))
  obtain ⟨z0, z1⟩ := Bx.two ⟨blk_grown (blk_new w (.cells #[.int .i64 44, .int .i64 a] 26)) hg1 (by have := H.out.lt; intro e; cases e; omega)⟩
  clear hr1 hg1
  go_wp2
  go_end0
  exact ⟨rfl, R1.out, B1.out⟩
set_option maxRecDepth 10000 in
set_option maxHeartbeats 400000 in
theorem does_46 {B : Nat} {w : World} {rb fb pb : Nat} {p : Pg} {r : Rn} (h : RunAt B w rb fb r) (E : EnvAt B w fb pb p) (hl : r.stack.length ≤ 900) (a : Int) :
    Calls Try.prog 80 #[.pointer (some ⟨rb, 0, none⟩), .agg #[.int .i64 46, .int .i64 a]] w fun x w' => x = .returned (.tuple #[]) ∧ RunAt B w' rb fb (takesN p (kindT 1) 1 r) ∧ Below B w w' := by
  have hs := h.size
  have hle := h.le
  have H := Aside0.mk h
  have E := Aside0.mk E
  have HL := Lib.hid hl
  clear h hl
  go_enter Try.func80, Try.ntmps80
  go_wp2_with fail
  refine (ints1_any (H.out.below (balloc w _)) (E.out.below ((balloc w _).mono hs))).mono ?_
  rintro e w1 ⟨rfl, hr1, hg1⟩
  have R1 := Aside0.mk hr1
  have B1 := Aside0.mk (((balloc w _).mono hs).trans (only_bel hg1 (H.out.below (balloc w _)).size hle))
  obtain ⟨z0, z1⟩ := Bx.two ⟨blk_grown (blk_new w (.cells #[.int .i64 46, .int .i64 a] 26)) hg1 (by have := H.out.lt; intro e; cases e; omega)⟩
  clear hr1 hg1
  go_wp2
  go_end0
  exact ⟨rfl, R1.out, B1.out⟩
set_option maxRecDepth 10000 in
set_option maxHeartbeats 400000 in
theorem does_47 {B : Nat} {w : World} {rb fb pb : Nat} {p : Pg} {r : Rn} (h : RunAt B w rb fb r) (E : EnvAt B w fb pb p) (hl : r.stack.length ≤ 900) (a : Int) :
    Calls Try.prog 80 #[.pointer (some ⟨rb, 0, none⟩), .agg #[.int .i64 47, .int .i64 a]] w fun x w' => x = .returned (.tuple #[]) ∧ RunAt B w' rb fb (takesN p (kindT 2) 1 r) ∧ Below B w w' := by
  have hs := h.size
  have hle := h.le
  have H := Aside0.mk h
  have E := Aside0.mk E
  have HL := Lib.hid hl
  clear h hl
  go_enter Try.func80, Try.ntmps80
  go_wp2_with fail
  refine (cplxs1_any (H.out.below (balloc w _)) (E.out.below ((balloc w _).mono hs))).mono ?_
  rintro e w1 ⟨rfl, hr1, hg1⟩
  have R1 := Aside0.mk hr1
  have B1 := Aside0.mk (((balloc w _).mono hs).trans (only_bel hg1 (H.out.below (balloc w _)).size hle))
  clear hr1 hg1
  go_wp2
  go_end0
  exact ⟨rfl, R1.out, B1.out⟩
set_option maxRecDepth 10000 in
set_option maxHeartbeats 400000 in
theorem does_6 {B : Nat} {w : World} {rb fb pb : Nat} {p : Pg} {r : Rn} (h : RunAt B w rb fb r) (E : EnvAt B w fb pb p) (hl : r.stack.length ≤ 900) (a : Int) :
    Calls Try.prog 80 #[.pointer (some ⟨rb, 0, none⟩), .agg #[.int .i64 6, .int .i64 a]] w fun x w' => x = .returned (.tuple #[]) ∧ RunAt B w' rb fb (popR r) ∧ Below B w w' := by
  have hs := h.size
  have hle := h.le
  have H := Aside0.mk h
  have E := Aside0.mk E
  have HL := Lib.hid hl
  clear h hl
  go_enter Try.func80, Try.ntmps80
  go_wp2_with fail
  refine (pop_any (H.out.below (balloc w _))).mono ?_
  rintro e w1 ⟨rfl, hr1, hg1⟩
  have R1 := Aside0.mk hr1
  have B1 := Aside0.mk (((balloc w _).mono hs).trans (only_bel hg1 (H.out.below (balloc w _)).size hle))
  clear hr1 hg1
  go_wp2
  go_end0
  exact ⟨rfl, R1.out, B1.out⟩
end Go.Proofs.Ytpdjkclacbgneaa
