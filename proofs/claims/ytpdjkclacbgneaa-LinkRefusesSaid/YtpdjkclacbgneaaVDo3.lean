/- verify's does: Load, Store. -/
import Derived.Test.YtpdjkclacbgneaaVDo2
import Derived.StillTailTactics
set_option linter.unusedVariables false
set_option linter.unusedSimpArgs false
namespace Go.Proofs.Ytpdjkclacbgneaa
open Go.RowKit Go.Shelf Go.Proofs.YtpdjkclacbgneaaW.PrintWords Go.Proofs.Ytpdjkclacbgneaa.Pl

theorem RunAt.local_at {B : Nat} {w : World} {rb fb : Nat} {r : Rn} (h : RunAt B w rb fb r) {k : Nat} {t : Ty} (ht : r.locals[k]? = some t) :
    ∃ ad c, w.cell? ⟨rb, 2, none⟩ = some (.slice (some ad) r.locals.length c) ∧ w.cell? (ad.add (k * 2)) = some (.int .i64 t.kind) ∧ w.cell? ⟨(ad.add (k * 2)).block, (ad.add (k * 2)).off + 1, none⟩ = some (.string t.cls) := by
  obtain ⟨hle, L, S, h2, h3, h4, h5⟩ := h
  obtain ⟨_, _, c2, _, _, _, _⟩ := run_cells h2
  obtain ⟨A, c, rfl, hc, hr⟩ := h3.reads
  have CC := cells_ty hr
  have hk := (List.getElem?_eq_some_iff.1 ht).1
  obtain ⟨ad, rfl, had⟩ := CC.2 (by omega)
  have e : r.locals.getD k default = t := by rw [List.getD_eq_getElem?_getD, ht]; rfl
  exact ⟨ad, c, c2, CC.at0 (j := k) hk (v := .int .i64 t.kind) (by simp only [e]; rfl), CC.at_ (j := k) (i := 1) hk (by decide) (v := .string t.cls) (by simp only [e]; rfl)⟩
theorem RunAt.len {B : Nat} {w : World} {rb fb : Nat} {r : Rn} (h : RunAt B w rb fb r) : r.locals.length ≤ maxLen := by
  obtain ⟨hle, L, S, h2, h3, h4, h5⟩ := h
  obtain ⟨A, c, rfl, hc, hr⟩ := h3.reads
  exact hr.2.1
def loadR (r : Rn) (t : Ty) : Rn := if t.kind = 6 then bad r 82 else r
theorem bad_loc (r : Rn) (e : Int) : (bad r e).locals = r.locals := by unfold bad; split <;> rfl
set_option maxRecDepth 10000 in
set_option maxHeartbeats 400000 in
theorem load_any {B : Nat} {w : World} {rb fb pb : Nat} {p : Pg} {r : Rn} (h : RunAt B w rb fb r) (hl : r.stack.length ≤ 900) (k : Nat) (t : Ty) (ht : r.locals[k]? = some t) :
    Calls Try.prog 80 #[.pointer (some ⟨rb, 0, none⟩), .agg #[.int .i64 4, .int .i64 k]] w fun x w' => x = .returned (.tuple #[]) ∧ RunAt B w' rb fb (push (loadR r t) t) ∧ Below B w w' := by
  have hs := h.size
  have hle := h.le
  have hlen := h.len
  have hrb := h.lt
  unfold maxLen at hlen
  have H := Aside0.mk h
  have HT := Aside0.mk ht
  have HL := Lib.hid hl
  have hlt : (k : Int) < (r.locals.length : Int) := by have := (List.getElem?_eq_some_iff.1 ht).1; omega
  have hk0 : (0 : Int) ≤ (k : Int) := by omega
  obtain ⟨W0, hW0⟩ : ∃ W0, w.alloc (.cells #[.int .i64 4, .int .i64 k] 26) = W0 := ⟨_, rfl⟩
  have hb0 : Below w.heap.size w W0 := by rw [← hW0]; exact balloc _ _
  have hz : W0.heap[w.heap.size]? = some (.cells #[.int .i64 4, .int .i64 k] 26 (0, 0)) := by rw [← hW0]; exact blk_new _ _
  obtain ⟨z0, z1⟩ := Bx.two ⟨hz⟩
  obtain ⟨ad, c, l0, l1, l2⟩ := (h.below hb0).local_at ht
  clear h ht hl
  go_enter Try.func80, Try.ntmps80
  go_wp2_with fail
  have H0 := Aside0.mk (H.out.below hb0)
  have HB0 := Aside0.mk (hb0.mono hs)
  have HZ := Aside0.mk hz
  have HLT := Lib.hid hrb
  clear hW0 hb0 hz hrb
  by_cases h6 : t.kind = 6
  · have e6 : (t.kind == 6) = true := by rw [h6]; rfl
    have HR : Hid (loadR r t = bad r 82) := Lib.hid (if_pos h6)
    clear h6
    go_quiet (fail)
    have H2 := Aside0.mk (H0.out.below (pw_below_drewN (Below.refl _ _) nq))
    go_wp2_with fail
    refine (bad_any H2.out 82).mono ?_
    rintro e w1 ⟨rfl, hw1⟩
    have H1 : Aside0 (RunAt B w1 rb fb (bad r 82)) := ⟨by rw [hw1]; exact (H2.out.bad 82).1⟩
    have Z1 : Aside0 (w1.heap[w.heap.size]? = some (.cells #[.int .i64 4, .int .i64 k] 26 (0, 0))) := ⟨by rw [hw1]; exact blk_grown (blk_below HZ.out (pw_below_drewN (Below.refl _ _) nq)) (only_badW _ _ _ _) (by have := HLT.out; intro e; cases e; omega)⟩
    have B1 : Aside0 (Below B w w1) := ⟨by rw [hw1]; exact HB0.out.trans (((pw_below_drewN (Below.refl W0.heap.size W0) nq).mono H0.out.size).trans (H2.out.bad 82).2.1)⟩
    clear z0 z1 l0 l1 l2 hw1
    go_wp2_with fail
    generalize w1 = W1 at *
    obtain ⟨ad1, c1, m0, m1, m2⟩ := H1.out.local_at (t := t) (k := k) (by rw [bad_loc]; exact HT.out)
    obtain ⟨y0, y1⟩ := Bx.two ⟨Z1.out⟩
    have HLN : Hid (((bad r 82) : Rn).locals.length = r.locals.length) := Lib.hid (by rw [bad_loc])
    rw [HLN.out] at m0
    have m0' : ({ heap := W1.heap, tape := W1.tape, drawn := W1.drawn + 1, os := W1.os, output := W1.output } : World).cell? ⟨rb, 2, none⟩ = some (.slice (some ad1) r.locals.length c1) := m0
    have m1' : ({ heap := W1.heap, tape := W1.tape, drawn := W1.drawn + 1, os := W1.os, output := W1.output } : World).cell? (ad1.add (k * 2)) = some (.int .i64 t.kind) := m1
    have m2' : ({ heap := W1.heap, tape := W1.tape, drawn := W1.drawn + 1, os := W1.os, output := W1.output } : World).cell? ⟨(ad1.add (k * 2)).block, (ad1.add (k * 2)).off + 1, none⟩ = some (.string t.cls) := m2
    have y1' : ({ heap := W1.heap, tape := W1.tape, drawn := W1.drawn + 1, os := W1.os, output := W1.output } : World).cell? ⟨w.heap.size, 1, none⟩ = some (.int .i64 k) := y1
    go_still_tail 10, (by kernel_rfl)
    change wpList _ _ _ _ _ W1.drew
    go_wp2_with fail
    refine (push_any (H1.out.below (below_drew (Below.refl _ _))) (by have := HL.out; rw [bad_len]; omega) t).mono ?_
    rintro e w6 ⟨rfl, hr6, hb6⟩
    have R6 := Aside0.mk hr6
    have B6 := Aside0.mk (B1.out.trans (((below_drew (Below.refl W1.heap.size W1)).mono H1.out.size).trans hb6))
    clear hr6 hb6
    go_wp2
    go_end0
    rw [HR.out]
    exact ⟨rfl, R6.out, B6.out⟩
  · have e6 : (t.kind == 6) = false := by rw [beq_eq_false_iff_ne]; exact h6
    have HR : Hid (loadR r t = r) := Lib.hid (if_neg h6)
    clear h6
    go_quiet (fail)
    go_wp2_with fail
    have H1 := Aside0.mk (H0.out.below (pw_below_drewN (Below.refl _ _) nq))
    have Z1 := Aside0.mk (blk_below HZ.out (pw_below_drewN (Below.refl _ _) nq))
    have B1 := Aside0.mk (HB0.out.trans ((pw_below_drewN (Below.refl W0.heap.size W0) nq).mono H0.out.size))
    clear z0 z1 l0 l1 l2
    generalize W0.drewN nq = W1 at *
    obtain ⟨ad1, c1, m0, m1, m2⟩ := H1.out.local_at (t := t) (k := k) (HT.out)
    obtain ⟨y0, y1⟩ := Bx.two ⟨Z1.out⟩
    have HLN : Hid (((r) : Rn).locals.length = r.locals.length) := Lib.hid (by rfl)
    rw [HLN.out] at m0
    have m0' : ({ heap := W1.heap, tape := W1.tape, drawn := W1.drawn + 1, os := W1.os, output := W1.output } : World).cell? ⟨rb, 2, none⟩ = some (.slice (some ad1) r.locals.length c1) := m0
    have m1' : ({ heap := W1.heap, tape := W1.tape, drawn := W1.drawn + 1, os := W1.os, output := W1.output } : World).cell? (ad1.add (k * 2)) = some (.int .i64 t.kind) := m1
    have m2' : ({ heap := W1.heap, tape := W1.tape, drawn := W1.drawn + 1, os := W1.os, output := W1.output } : World).cell? ⟨(ad1.add (k * 2)).block, (ad1.add (k * 2)).off + 1, none⟩ = some (.string t.cls) := m2
    have y1' : ({ heap := W1.heap, tape := W1.tape, drawn := W1.drawn + 1, os := W1.os, output := W1.output } : World).cell? ⟨w.heap.size, 1, none⟩ = some (.int .i64 k) := y1
    go_still_tail 10, (by kernel_rfl)
    change wpList _ _ _ _ _ W1.drew
    go_wp2_with fail
    refine (push_any (H1.out.below (below_drew (Below.refl _ _))) (by have := HL.out; omega) t).mono ?_
    rintro e w6 ⟨rfl, hr6, hb6⟩
    have R6 := Aside0.mk hr6
    have B6 := Aside0.mk (B1.out.trans (((below_drew (Below.refl W1.heap.size W1)).mono H1.out.size).trans hb6))
    clear hr6 hb6
    go_wp2
    go_end0
    rw [HR.out]
    exact ⟨rfl, R6.out, B6.out⟩
end Go.Proofs.Ytpdjkclacbgneaa
