/- verify's objects: New, Enter, Exit, Ret, and the ops that ask nothing. -/
import Derived.Test.YtpdjkclacbgneaaVDo4
set_option linter.unusedVariables false
set_option linter.unusedSimpArgs false
namespace Go.Proofs.Ytpdjkclacbgneaa
open Go.RowKit Go.Shelf Go.Proofs.YtpdjkclacbgneaaW.PrintWords Go.Proofs.Ytpdjkclacbgneaa.Pl

/-- What a run may read of its flow. -/
structure FlowEnv (B : Nat) (w : World) (fb pb : Nat) (p : Pg) (c : Cl) (m : Mt) : Prop where
  env : EnvAt B w fb pb p
  ret : ∀ W, Below B w W → W.cell? ⟨fb, 8, none⟩ = some (.int .i64 m.ret.kind) ∧ W.cell? ⟨fb, 9, none⟩ = some (.string m.ret.cls)
  pool : ∀ W, Below B w W → ∃ A cap, W.cell? ⟨fb, 3, none⟩ = some (.slice A c.pool.length cap) ∧ cnK.C W A c.pool.length c.pool
theorem FlowEnv.below {B : Nat} {w w1 : World} {fb pb : Nat} {p : Pg} {c : Cl} {m : Mt} (E : FlowEnv B w fb pb p c m) (hb : Below B w w1) : FlowEnv B w1 fb pb p c m := ⟨E.env.below hb, fun W h => E.ret W (hb.trans h), fun W h => E.pool W (hb.trans h)⟩
theorem ref_any (n : Nm) (w : World) : Calls Try.prog 78 #[.string n] w fun e w' => e = .returned (.agg #[.int .i64 4, .string n]) ∧ Below w.heap.size w w' := by
  go_enter Try.func78, Try.ntmps78
  go_wp2
  refine bodyPost_ret (results_cell_row rfl _ _ _ _ _ _ _ rfl (blk_new _ _) Try.underlying48 rfl (by kernel_rfl)) rfl ?_
  exact ⟨rfl, balloc _ _⟩
set_option maxRecDepth 10000 in
set_option maxHeartbeats 400000 in
theorem constant_v {B : Nat} {w : World} {rb fb pb : Nat} {p : Pg} {c : Cl} {m : Mt} {r : Rn} (h : RunAt B w rb fb r) (E : FlowEnv B w fb pb p c m) (op : Int) (k : Nat) (x : Cn) (hx : c.pool[k]? = some x) :
    Calls Try.prog 133 #[.pointer (some ⟨rb, 0, none⟩), .agg #[.int .i64 op, .int .i64 k]] w fun e w' => e = .returned (.agg (cnCs x).toArray) ∧ Below w.heap.size w w' := by
  have hrb := h.lt
  obtain ⟨_, L, S, q2, _⟩ := h
  obtain ⟨r0, _, _, _, _, _, _⟩ := run_cells q2
  obtain ⟨A, cap, p3, hC⟩ := E.pool w (Below.refl _ _)
  have CC := cells_cn hC
  have hk := (List.getElem?_eq_some_iff.1 hx).1
  have hlt : (k : Int) < (c.pool.length : Int) := by omega
  have hk0 : (0 : Int) ≤ (k : Int) := by omega
  have hmax := CC.1
  obtain ⟨ad, rfl, _⟩ := CC.2 (by omega)
  have e : c.pool.getD k default = x := by rw [List.getD_eq_getElem?_getD, hx]; rfl
  have l0 := CC.at0 (j := k) hk (v := .int .i64 x.kind) (by simp only [e]; rfl)
  have l1 := CC.at_ (j := k) (i := 1) hk (by decide) (v := .int .i64 x.int) (by simp only [e]; rfl)
  have l2 := CC.at_ (j := k) (i := 2) hk (by decide) (v := .complex .f64 x.re x.im) (by simp only [e]; rfl)
  have l3 := CC.at_ (j := k) (i := 3) hk (by decide) (v := .string x.cls) (by simp only [e]; rfl)
  have l4 := CC.at_ (j := k) (i := 4) hk (by decide) (v := .string x.name) (by simp only [e]; rfl)
  obtain ⟨W0, hW0⟩ : ∃ W0, (w.alloc (.cells #[.int .i64 op, .int .i64 k] 26)).alloc (.cells #[.int .i64 0, .int .i64 0, .complex .f64 0 0, .string ⟨#[]⟩, .string ⟨#[]⟩] 32) = W0 := ⟨_, rfl⟩
  have hb0 : Below w.heap.size w W0 := by rw [← hW0]; exact bthen (balloc _ _) (balloc _ _)
  have hz : W0.heap[w.heap.size]? = some (.cells #[.int .i64 op, .int .i64 k] 26 (0, 0)) := by rw [← hW0]; exact blk_alloc (blk_new w _) _
  have hg : W0.heap[w.heap.size + 1]? = some (.cells #[.int .i64 0, .int .i64 0, .complex .f64 0 0, .string ⟨#[]⟩, .string ⟨#[]⟩] 32 (0, 0)) := by rw [← hW0]; exact blk_second w _ _
  obtain ⟨z0, z1⟩ := Bx.two ⟨hz⟩
  have f0 := E.env.flow w (Below.refl _ _)
  have n0 := pw_cell_below hb0 r0
  have n3 := pw_cell_below hb0 p3
  have m0 := pw_cell_below hb0 l0
  have m1 := pw_cell_below hb0 l1
  have m2 := pw_cell_below hb0 l2
  have m3 := pw_cell_below hb0 l3
  have m4 := pw_cell_below hb0 l4
  have HB0 := Aside0.mk hb0
  have HG := Aside0.mk hg
  have hgs : W0.heap.size = w.heap.size + 2 := by rw [← hW0]; simp
  clear q2 r0 p3 hC CC hx E l0 l1 l2 l3 l4 hb0 hz hg f0
  go_enter Try.func133, Try.ntmps133
  go_wp2_with fail
  clear hW0
  have W0d : ∀ a, ({ heap := W0.heap, tape := W0.tape, drawn := W0.drawn + 1, os := W0.os, output := W0.output } : World).cell? a = W0.cell? a := fun a => rfl
  have hgd : W0.heap[w.heap.size + 1]? = some (.cells #[.int .i64 0, .int .i64 0, .complex .f64 0 0, .string ⟨#[]⟩, .string ⟨#[]⟩] 32 (0, 0)) := HG.out
  obtain ⟨g0, g1, g2, g3, g4⟩ := Bx.five ⟨hgd⟩
  have hfz : ∀ j, W0.frozen? ⟨w.heap.size + 1, j, none⟩ = false := fun j => by unfold World.frozen?; rw [hgd]; simp
  have hch := heap_set (i := 4) (u := .string x.name) (heap_set (i := 3) (u := .string x.cls) (heap_set (i := 2) (u := .complex .f64 x.re x.im) (heap_set (i := 1) (u := .int .i64 x.int) (heap_set (i := 0) (u := .int .i64 x.kind) hgd))))
  have HCH := Aside0.mk hch
  have hgl : w.heap.size ≤ w.heap.size + 1 := by omega
  have HB1 : Aside0 (Below w.heap.size w (((((W0.setCell ⟨w.heap.size + 1, 0, none⟩ (.int .i64 x.kind)).setCell ⟨w.heap.size + 1, 1, none⟩ (.int .i64 x.int)).setCell ⟨w.heap.size + 1, 2, none⟩ (.complex .f64 x.re x.im)).setCell ⟨w.heap.size + 1, 3, none⟩ (.string x.cls)).setCell ⟨w.heap.size + 1, 4, none⟩ (.string x.name))) := ⟨set_low (set_low (set_low (set_low (set_low HB0.out hgl _) hgl _) hgl _) hgl _) hgl _⟩
  clear hgd hch hgs
  have hrc := run_store_cplx
  go_still_tail 12, (by kernel_rfl)
  change wpList _ _ _ _ _ W0.drew
  go_wp2
  refine bodyPost_ret (results_cell_row rfl _ _ _ _ _ _ _ rfl (blk_drew HCH.out) Try.underlying32 rfl (by kernel_rfl)) rfl ?_
  exact ⟨rfl, below_drew HB1.out⟩
set_option maxRecDepth 10000 in
set_option maxHeartbeats 400000 in
theorem objects_0 {B : Nat} {w : World} {rb fb pb : Nat} {p : Pg} {c : Cl} {m : Mt} {r : Rn} (h : RunAt B w rb fb r) (a : Int) :
    Calls Try.prog 111 #[.pointer (some ⟨rb, 0, none⟩), .agg #[.int .i64 0, .int .i64 a]] w fun x w' => x = .returned (.tuple #[]) ∧ RunAt B w' rb fb (r) ∧ Below B w w' := by
  have hs := h.size
  have hle := h.le
  have H := Aside0.mk h
  clear h
  go_enter Try.func111, Try.ntmps111
  go_wp2
  go_end0
  exact ⟨rfl, H.out.below (balloc w _), (balloc w _).mono hs⟩
set_option maxRecDepth 10000 in
set_option maxHeartbeats 400000 in
theorem objects_22 {B : Nat} {w : World} {rb fb pb : Nat} {p : Pg} {c : Cl} {m : Mt} {r : Rn} (h : RunAt B w rb fb r) (a : Int) :
    Calls Try.prog 111 #[.pointer (some ⟨rb, 0, none⟩), .agg #[.int .i64 22, .int .i64 a]] w fun x w' => x = .returned (.tuple #[]) ∧ RunAt B w' rb fb (r) ∧ Below B w w' := by
  have hs := h.size
  have hle := h.le
  have H := Aside0.mk h
  clear h
  go_enter Try.func111, Try.ntmps111
  go_wp2
  go_end0
  exact ⟨rfl, H.out.below (balloc w _), (balloc w _).mono hs⟩
set_option maxRecDepth 10000 in
set_option maxHeartbeats 400000 in
theorem objects_45 {B : Nat} {w : World} {rb fb pb : Nat} {p : Pg} {c : Cl} {m : Mt} {r : Rn} (h : RunAt B w rb fb r) (a : Int) :
    Calls Try.prog 111 #[.pointer (some ⟨rb, 0, none⟩), .agg #[.int .i64 45, .int .i64 a]] w fun x w' => x = .returned (.tuple #[]) ∧ RunAt B w' rb fb (r) ∧ Below B w w' := by
  have hs := h.size
  have hle := h.le
  have H := Aside0.mk h
  clear h
  go_enter Try.func111, Try.ntmps111
  go_wp2
  go_end0
  exact ⟨rfl, H.out.below (balloc w _), (balloc w _).mono hs⟩
set_option maxRecDepth 10000 in
set_option maxHeartbeats 400000 in
theorem objects_38 {B : Nat} {w : World} {rb fb pb : Nat} {p : Pg} {c : Cl} {m : Mt} {r : Rn} (h : RunAt B w rb fb r) (k : Nat) (t : Ty) (ht : r.locals[k]? = some t) :
    Calls Try.prog 111 #[.pointer (some ⟨rb, 0, none⟩), .agg #[.int .i64 38, .int .i64 k]] w fun x w' => x = .returned (.tuple #[]) ∧ RunAt B w' rb fb (objectR r t) ∧ Below B w w' := by
  have hs := h.size
  have hle := h.le
  have hrb := h.lt
  have hlen := h.len
  unfold maxLen at hlen
  have H := Aside0.mk h
  have HT := Aside0.mk ht
  have hlt : (k : Int) < (r.locals.length : Int) := by have := (List.getElem?_eq_some_iff.1 ht).1; omega
  have hk0 : (0 : Int) ≤ (k : Int) := by omega
  obtain ⟨W0, hW0⟩ : ∃ W0, w.alloc (.cells #[.int .i64 38, .int .i64 k] 26) = W0 := ⟨_, rfl⟩
  have hb0 : Below w.heap.size w W0 := by rw [← hW0]; exact balloc _ _
  have hz : W0.heap[w.heap.size]? = some (.cells #[.int .i64 38, .int .i64 k] 26 (0, 0)) := by rw [← hW0]; exact blk_new _ _
  obtain ⟨z0, z1⟩ := Bx.two ⟨hz⟩
  obtain ⟨ad, c1, l0, l1, l2⟩ := (h.below hb0).local_at ht
  have H0 := Aside0.mk (H.out.below hb0)
  have HB0 := Aside0.mk (hb0.mono hs)
  have HOB := Lib.hid (objectB_false r t)
  clear h ht hb0 hz
  go_enter Try.func111, Try.ntmps111
  go_wp2_with fail
  clear hW0
  have m0 : ({ heap := W0.heap, tape := W0.tape, drawn := W0.drawn + 1, os := W0.os, output := W0.output } : World).cell? ⟨rb, 2, none⟩ = some (.slice (some ad) r.locals.length c1) := l0
  have m1 : ({ heap := W0.heap, tape := W0.tape, drawn := W0.drawn + 1, os := W0.os, output := W0.output } : World).cell? (ad.add (k * 2)) = some (.int .i64 t.kind) := l1
  have m2 : ({ heap := W0.heap, tape := W0.tape, drawn := W0.drawn + 1, os := W0.os, output := W0.output } : World).cell? ⟨(ad.add (k * 2)).block, (ad.add (k * 2)).off + 1, none⟩ = some (.string t.cls) := l2
  have y1 : ({ heap := W0.heap, tape := W0.tape, drawn := W0.drawn + 1, os := W0.os, output := W0.output } : World).cell? ⟨w.heap.size, 1, none⟩ = some (.int .i64 k) := z1
  go_still_tail 10, (by kernel_rfl)
  change wpList _ _ _ _ _ W0.drew
  go_wp2_with fail
  refine (object_any (H0.out.below (below_drew (Below.refl _ _))) t false).mono ?_
  rintro e w6 ⟨rfl, hr6, hg6⟩
  rw [HOB.out] at hr6
  have R6 := Aside0.mk hr6
  have B6 := Aside0.mk (HB0.out.trans (((below_drew (Below.refl W0.heap.size W0)).mono H0.out.size).trans (only_bel hg6 (H0.out.below (below_drew (Below.refl _ _))).size hle)))
  clear hr6 hg6
  go_wp2
  go_end0
  exact ⟨rfl, R6.out, B6.out⟩
set_option maxRecDepth 10000 in
set_option maxHeartbeats 400000 in
theorem objects_39 {B : Nat} {w : World} {rb fb pb : Nat} {p : Pg} {c : Cl} {m : Mt} {r : Rn} (h : RunAt B w rb fb r) (k : Nat) (t : Ty) (ht : r.locals[k]? = some t) :
    Calls Try.prog 111 #[.pointer (some ⟨rb, 0, none⟩), .agg #[.int .i64 39, .int .i64 k]] w fun x w' => x = .returned (.tuple #[]) ∧ RunAt B w' rb fb (objectR r t) ∧ Below B w w' := by
  have hs := h.size
  have hle := h.le
  have hrb := h.lt
  have hlen := h.len
  unfold maxLen at hlen
  have H := Aside0.mk h
  have HT := Aside0.mk ht
  have hlt : (k : Int) < (r.locals.length : Int) := by have := (List.getElem?_eq_some_iff.1 ht).1; omega
  have hk0 : (0 : Int) ≤ (k : Int) := by omega
  obtain ⟨W0, hW0⟩ : ∃ W0, w.alloc (.cells #[.int .i64 39, .int .i64 k] 26) = W0 := ⟨_, rfl⟩
  have hb0 : Below w.heap.size w W0 := by rw [← hW0]; exact balloc _ _
  have hz : W0.heap[w.heap.size]? = some (.cells #[.int .i64 39, .int .i64 k] 26 (0, 0)) := by rw [← hW0]; exact blk_new _ _
  obtain ⟨z0, z1⟩ := Bx.two ⟨hz⟩
  obtain ⟨ad, c1, l0, l1, l2⟩ := (h.below hb0).local_at ht
  have H0 := Aside0.mk (H.out.below hb0)
  have HB0 := Aside0.mk (hb0.mono hs)
  have HOB := Lib.hid (objectB_false r t)
  clear h ht hb0 hz
  go_enter Try.func111, Try.ntmps111
  go_wp2_with fail
  clear hW0
  have m0 : ({ heap := W0.heap, tape := W0.tape, drawn := W0.drawn + 1, os := W0.os, output := W0.output } : World).cell? ⟨rb, 2, none⟩ = some (.slice (some ad) r.locals.length c1) := l0
  have m1 : ({ heap := W0.heap, tape := W0.tape, drawn := W0.drawn + 1, os := W0.os, output := W0.output } : World).cell? (ad.add (k * 2)) = some (.int .i64 t.kind) := l1
  have m2 : ({ heap := W0.heap, tape := W0.tape, drawn := W0.drawn + 1, os := W0.os, output := W0.output } : World).cell? ⟨(ad.add (k * 2)).block, (ad.add (k * 2)).off + 1, none⟩ = some (.string t.cls) := l2
  have y1 : ({ heap := W0.heap, tape := W0.tape, drawn := W0.drawn + 1, os := W0.os, output := W0.output } : World).cell? ⟨w.heap.size, 1, none⟩ = some (.int .i64 k) := z1
  go_still_tail 10, (by kernel_rfl)
  change wpList _ _ _ _ _ W0.drew
  go_wp2_with fail
  refine (object_any (H0.out.below (below_drew (Below.refl _ _))) t false).mono ?_
  rintro e w6 ⟨rfl, hr6, hg6⟩
  rw [HOB.out] at hr6
  have R6 := Aside0.mk hr6
  have B6 := Aside0.mk (HB0.out.trans (((below_drew (Below.refl W0.heap.size W0)).mono H0.out.size).trans (only_bel hg6 (H0.out.below (below_drew (Below.refl _ _))).size hle)))
  clear hr6 hg6
  go_wp2
  go_end0
  exact ⟨rfl, R6.out, B6.out⟩
def retR (ret : Int) (r : Rn) : Rn := if ret = 0 then r else bad r 80
set_option maxRecDepth 10000 in
set_option maxHeartbeats 400000 in
theorem calls_33 {B : Nat} {w : World} {rb fb pb : Nat} {p : Pg} {c : Cl} {m : Mt} {r : Rn} (h : RunAt B w rb fb r) (E : FlowEnv B w fb pb p c m) (a : Int) :
    Calls Try.prog 135 #[.pointer (some ⟨rb, 0, none⟩), .agg #[.int .i64 33, .int .i64 a]] w fun x w' => x = .returned (.tuple #[]) ∧ RunAt B w' rb fb (retR m.ret.kind r) ∧ Below B w w' := by
  have hs := h.size
  have hle := h.le
  have hrb := h.lt
  have H := Aside0.mk h
  obtain ⟨_, L, S, q2, _⟩ := H.out
  obtain ⟨r0, _, _, _, _, _, _⟩ := run_cells q2
  have f0 := E.env.flow w (Below.refl _ _)
  have hfb : fb < w.heap.size := World.block_lt_of_cell? w _ f0
  obtain ⟨e8, e9⟩ := E.ret w (Below.refl _ _)
  clear h q2 E
  by_cases hk : m.ret.kind = 0
  · have hk' : (m.ret.kind != 0) = false := by simp [hk]
    have HR : Hid (retR m.ret.kind r = r) := Lib.hid (if_pos hk)
    clear hk
    go_enter Try.func135, Try.ntmps135
    go_wp2
    refine bodyPost_ret (results_none rfl _ _ _) rfl ?_
    rw [HR.out]
    have hb : Below w.heap.size w ((w.alloc (.cells #[.int .i64 33, .int .i64 a] 26)).alloc (.cells #[.int .i64 m.ret.kind, .string m.ret.cls] 48)) := bthen (balloc w _) (balloc _ _)
    exact ⟨rfl, H.out.below hb, hb.mono hs⟩
  · have hk' : (m.ret.kind != 0) = true := by simp [hk]
    have HR : Hid (retR m.ret.kind r = bad r 80) := Lib.hid (if_neg hk)
    clear hk
    go_enter Try.func135, Try.ntmps135
    go_wp2_with fail
    have hb : Below w.heap.size w ((w.alloc (.cells #[.int .i64 33, .int .i64 a] 26)).alloc (.cells #[.int .i64 m.ret.kind, .string m.ret.cls] 48)) := bthen (balloc w _) (balloc _ _)
    refine (bad_any (H.out.below hb) 80).mono ?_
    rintro e w1 ⟨rfl, rfl⟩
    have HF := Aside0.mk ((H.out.below hb).bad 80)
    have HB := Aside0.mk (hb.mono hs)
    clear hb
    go_wp2
    refine bodyPost_ret (results_none rfl _ _ _) rfl ?_
    rw [HR.out]
    exact ⟨rfl, HF.out.1, HB.out.trans HF.out.2.1⟩
set_option maxRecDepth 10000 in
set_option maxHeartbeats 400000 in
theorem objects_33 {B : Nat} {w : World} {rb fb pb : Nat} {p : Pg} {c : Cl} {m : Mt} {r : Rn} (h : RunAt B w rb fb r) (E : FlowEnv B w fb pb p c m) (a : Int) :
    Calls Try.prog 111 #[.pointer (some ⟨rb, 0, none⟩), .agg #[.int .i64 33, .int .i64 a]] w fun x w' => x = .returned (.tuple #[]) ∧ RunAt B w' rb fb (retR m.ret.kind r) ∧ Below B w w' := by
  have hs := h.size
  have hle := h.le
  have H := Aside0.mk h
  have E := Aside0.mk E
  clear h
  go_enter Try.func111, Try.ntmps111
  go_wp2_with fail
  refine (calls_33 (H.out.below (balloc w _)) (E.out.below ((balloc w _).mono hs)) a).mono ?_
  rintro e w6 ⟨rfl, hr6, hb6⟩
  have R6 := Aside0.mk hr6
  have B6 := Aside0.mk (((balloc w _).mono hs).trans hb6)
  clear hr6 hb6
  go_wp2
  go_end0
  exact ⟨rfl, R6.out, B6.out⟩
set_option maxRecDepth 10000 in
set_option maxHeartbeats 400000 in
theorem objects_25 {B : Nat} {w : World} {rb fb pb : Nat} {p : Pg} {c : Cl} {m : Mt} {r : Rn} (h : RunAt B w rb fb r) (E : FlowEnv B w fb pb p c m) (hl : r.stack.length ≤ 900) (k : Nat) (cn : Cn) (hx : c.pool[k]? = some cn) :
    Calls Try.prog 111 #[.pointer (some ⟨rb, 0, none⟩), .agg #[.int .i64 25, .int .i64 k]] w fun x w' => x = .returned (.tuple #[]) ∧ RunAt B w' rb fb (push r (refT cn.cls)) ∧ Below B w w' := by
  have hs := h.size
  have hle := h.le
  have H := Aside0.mk h
  have E := Aside0.mk E
  have HX := Aside0.mk hx
  have HL := Lib.hid hl
  have hfl : ∀ (a b d e f : Value) (w : World), (Instr.field 32 (.agg #[a, b, d, e, f]) 3).run Try.prog w = .ok e w := by intros; kernel_rfl
  clear h hx hl
  go_enter Try.func111, Try.ntmps111
  go_wp2_with fail
  refine (constant_v (H.out.below (balloc w _)) (E.out.below ((balloc w _).mono hs)) 25 k cn HX.out).mono ?_
  rintro e w5 ⟨rfl, hb5⟩
  unfold cnCs
  have B5 := Aside0.mk (bthen (balloc w _) hb5)
  clear hb5
  go_wp2_with fail
  refine (ref_any cn.cls _).mono ?_
  rintro e w4 ⟨rfl, hb4⟩
  have B4 := Aside0.mk (bthen B5.out hb4)
  clear hb4
  go_wp2_with fail
  refine (push_any (H.out.below B4.out) (by have := HL.out; omega) (refT cn.cls)).mono ?_
  rintro e w6 ⟨rfl, hr6, hb6⟩
  have R6 := Aside0.mk hr6
  have B6 := Aside0.mk ((B4.out.mono hs).trans hb6)
  clear hr6 hb6
  go_wp2
  go_end0
  exact ⟨rfl, R6.out, B6.out⟩
set_option maxRecDepth 10000 in
set_option maxHeartbeats 400000 in
theorem does_0 {B : Nat} {w : World} {rb fb pb : Nat} {p : Pg} {c : Cl} {m : Mt} {r : Rn} (h : RunAt B w rb fb r) (a : Int) :
    Calls Try.prog 80 #[.pointer (some ⟨rb, 0, none⟩), .agg #[.int .i64 0, .int .i64 a]] w fun x w' => x = .returned (.tuple #[]) ∧ RunAt B w' rb fb (r) ∧ Below B w w' := by
  have hs := h.size
  have hle := h.le
  have C := Aside0.mk (objects_0 (p := p) (c := c) (m := m) (pb := pb) (h.below (balloc w (.cells #[.int .i64 0, .int .i64 a] 26))) a)
  have hb : Aside0 (Below B w (w.alloc (.cells #[.int .i64 0, .int .i64 a] 26))) := ⟨(balloc w _).mono hs⟩
  clear h
  go_enter Try.func80, Try.ntmps80
  go_wp2_with fail
  refine C.out.mono ?_
  rintro e w6 ⟨rfl, hr6, hb6⟩
  have R6 := Aside0.mk hr6
  have B6 := Aside0.mk (hb.out.trans hb6)
  clear hr6 hb6
  go_wp2
  go_end0
  exact ⟨rfl, R6.out, B6.out⟩
set_option maxRecDepth 10000 in
set_option maxHeartbeats 400000 in
theorem does_22 {B : Nat} {w : World} {rb fb pb : Nat} {p : Pg} {c : Cl} {m : Mt} {r : Rn} (h : RunAt B w rb fb r) (a : Int) :
    Calls Try.prog 80 #[.pointer (some ⟨rb, 0, none⟩), .agg #[.int .i64 22, .int .i64 a]] w fun x w' => x = .returned (.tuple #[]) ∧ RunAt B w' rb fb (r) ∧ Below B w w' := by
  have hs := h.size
  have hle := h.le
  have C := Aside0.mk (objects_22 (p := p) (c := c) (m := m) (pb := pb) (h.below (balloc w (.cells #[.int .i64 22, .int .i64 a] 26))) a)
  have hb : Aside0 (Below B w (w.alloc (.cells #[.int .i64 22, .int .i64 a] 26))) := ⟨(balloc w _).mono hs⟩
  clear h
  go_enter Try.func80, Try.ntmps80
  go_wp2_with fail
  refine C.out.mono ?_
  rintro e w6 ⟨rfl, hr6, hb6⟩
  have R6 := Aside0.mk hr6
  have B6 := Aside0.mk (hb.out.trans hb6)
  clear hr6 hb6
  go_wp2
  go_end0
  exact ⟨rfl, R6.out, B6.out⟩
set_option maxRecDepth 10000 in
set_option maxHeartbeats 400000 in
theorem does_45 {B : Nat} {w : World} {rb fb pb : Nat} {p : Pg} {c : Cl} {m : Mt} {r : Rn} (h : RunAt B w rb fb r) (a : Int) :
    Calls Try.prog 80 #[.pointer (some ⟨rb, 0, none⟩), .agg #[.int .i64 45, .int .i64 a]] w fun x w' => x = .returned (.tuple #[]) ∧ RunAt B w' rb fb (r) ∧ Below B w w' := by
  have hs := h.size
  have hle := h.le
  have C := Aside0.mk (objects_45 (p := p) (c := c) (m := m) (pb := pb) (h.below (balloc w (.cells #[.int .i64 45, .int .i64 a] 26))) a)
  have hb : Aside0 (Below B w (w.alloc (.cells #[.int .i64 45, .int .i64 a] 26))) := ⟨(balloc w _).mono hs⟩
  clear h
  go_enter Try.func80, Try.ntmps80
  go_wp2_with fail
  refine C.out.mono ?_
  rintro e w6 ⟨rfl, hr6, hb6⟩
  have R6 := Aside0.mk hr6
  have B6 := Aside0.mk (hb.out.trans hb6)
  clear hr6 hb6
  go_wp2
  go_end0
  exact ⟨rfl, R6.out, B6.out⟩
set_option maxRecDepth 10000 in
set_option maxHeartbeats 400000 in
theorem does_38 {B : Nat} {w : World} {rb fb pb : Nat} {p : Pg} {c : Cl} {m : Mt} {r : Rn} (h : RunAt B w rb fb r) (k : Nat) (t : Ty) (ht : r.locals[k]? = some t) :
    Calls Try.prog 80 #[.pointer (some ⟨rb, 0, none⟩), .agg #[.int .i64 38, .int .i64 k]] w fun x w' => x = .returned (.tuple #[]) ∧ RunAt B w' rb fb (objectR r t) ∧ Below B w w' := by
  have hs := h.size
  have hle := h.le
  have C := Aside0.mk (objects_38 (p := p) (c := c) (m := m) (pb := pb) (h.below (balloc w (.cells #[.int .i64 38, .int .i64 k] 26))) k t ht)
  have hb : Aside0 (Below B w (w.alloc (.cells #[.int .i64 38, .int .i64 k] 26))) := ⟨(balloc w _).mono hs⟩
  clear h ht
  go_enter Try.func80, Try.ntmps80
  go_wp2_with fail
  refine C.out.mono ?_
  rintro e w6 ⟨rfl, hr6, hb6⟩
  have R6 := Aside0.mk hr6
  have B6 := Aside0.mk (hb.out.trans hb6)
  clear hr6 hb6
  go_wp2
  go_end0
  exact ⟨rfl, R6.out, B6.out⟩
set_option maxRecDepth 10000 in
set_option maxHeartbeats 400000 in
theorem does_39 {B : Nat} {w : World} {rb fb pb : Nat} {p : Pg} {c : Cl} {m : Mt} {r : Rn} (h : RunAt B w rb fb r) (k : Nat) (t : Ty) (ht : r.locals[k]? = some t) :
    Calls Try.prog 80 #[.pointer (some ⟨rb, 0, none⟩), .agg #[.int .i64 39, .int .i64 k]] w fun x w' => x = .returned (.tuple #[]) ∧ RunAt B w' rb fb (objectR r t) ∧ Below B w w' := by
  have hs := h.size
  have hle := h.le
  have C := Aside0.mk (objects_39 (p := p) (c := c) (m := m) (pb := pb) (h.below (balloc w (.cells #[.int .i64 39, .int .i64 k] 26))) k t ht)
  have hb : Aside0 (Below B w (w.alloc (.cells #[.int .i64 39, .int .i64 k] 26))) := ⟨(balloc w _).mono hs⟩
  clear h ht
  go_enter Try.func80, Try.ntmps80
  go_wp2_with fail
  refine C.out.mono ?_
  rintro e w6 ⟨rfl, hr6, hb6⟩
  have R6 := Aside0.mk hr6
  have B6 := Aside0.mk (hb.out.trans hb6)
  clear hr6 hb6
  go_wp2
  go_end0
  exact ⟨rfl, R6.out, B6.out⟩
set_option maxRecDepth 10000 in
set_option maxHeartbeats 400000 in
theorem does_33 {B : Nat} {w : World} {rb fb pb : Nat} {p : Pg} {c : Cl} {m : Mt} {r : Rn} (h : RunAt B w rb fb r) (E : FlowEnv B w fb pb p c m) (a : Int) :
    Calls Try.prog 80 #[.pointer (some ⟨rb, 0, none⟩), .agg #[.int .i64 33, .int .i64 a]] w fun x w' => x = .returned (.tuple #[]) ∧ RunAt B w' rb fb (retR m.ret.kind r) ∧ Below B w w' := by
  have hs := h.size
  have hle := h.le
  have C := Aside0.mk (objects_33 (h.below (balloc w (.cells #[.int .i64 33, .int .i64 a] 26))) (E.below ((balloc w _).mono hs)) a)
  have hb : Aside0 (Below B w (w.alloc (.cells #[.int .i64 33, .int .i64 a] 26))) := ⟨(balloc w _).mono hs⟩
  clear h E
  go_enter Try.func80, Try.ntmps80
  go_wp2_with fail
  refine C.out.mono ?_
  rintro e w6 ⟨rfl, hr6, hb6⟩
  have R6 := Aside0.mk hr6
  have B6 := Aside0.mk (hb.out.trans hb6)
  clear hr6 hb6
  go_wp2
  go_end0
  exact ⟨rfl, R6.out, B6.out⟩
set_option maxRecDepth 10000 in
set_option maxHeartbeats 400000 in
theorem does_25 {B : Nat} {w : World} {rb fb pb : Nat} {p : Pg} {c : Cl} {m : Mt} {r : Rn} (h : RunAt B w rb fb r) (E : FlowEnv B w fb pb p c m) (hl : r.stack.length ≤ 900) (k : Nat) (cn : Cn) (hx : c.pool[k]? = some cn) :
    Calls Try.prog 80 #[.pointer (some ⟨rb, 0, none⟩), .agg #[.int .i64 25, .int .i64 k]] w fun x w' => x = .returned (.tuple #[]) ∧ RunAt B w' rb fb (push r (refT cn.cls)) ∧ Below B w w' := by
  have hs := h.size
  have hle := h.le
  have C := Aside0.mk (objects_25 (h.below (balloc w (.cells #[.int .i64 25, .int .i64 k] 26))) (E.below ((balloc w _).mono hs)) hl k cn hx)
  have hb : Aside0 (Below B w (w.alloc (.cells #[.int .i64 25, .int .i64 k] 26))) := ⟨(balloc w _).mono hs⟩
  clear h E hl hx
  go_enter Try.func80, Try.ntmps80
  go_wp2_with fail
  refine C.out.mono ?_
  rintro e w6 ⟨rfl, hr6, hb6⟩
  have R6 := Aside0.mk hr6
  have B6 := Aside0.mk (hb.out.trans hb6)
  clear hr6 hb6
  go_wp2
  go_end0
  exact ⟨rfl, R6.out, B6.out⟩
end Go.Proofs.Ytpdjkclacbgneaa
