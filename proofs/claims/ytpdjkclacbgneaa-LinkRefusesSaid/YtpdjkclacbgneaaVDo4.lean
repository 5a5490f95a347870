/- verify's does: Store; the ops that do nothing here. -/
import Derived.Test.YtpdjkclacbgneaaVDo3
import Derived.Deep.RegionHeld3
set_option linter.unusedVariables false
set_option linter.unusedSimpArgs false
namespace Go.Proofs.Ytpdjkclacbgneaa
open Go.RowKit Go.Shelf Go.Proofs.YtpdjkclacbgneaaW.PrintWords Go.Proofs.Ytpdjkclacbgneaa.Pl

theorem flt_set : ∀ (l : List Ty) (k : Nat) (t : Ty), ((flt l).set (k * 2) (.int .i64 t.kind)).set (k * 2 + 1) (.string t.cls) = flt (l.set k t)
  | [], k, t => rfl
  | a :: r, 0, t => by simp [flt, tyCs]
  | a :: r, k + 1, t => by
    have ih := flt_set r k t
    rw [flt, List.flatMap_cons, show tyCs a = [.int .i64 a.kind, .string a.cls] from rfl]
    rw [flt] at ih
    rw [show (k + 1) * 2 = k * 2 + 1 + 1 by omega, show k * 2 + 1 + 1 + 1 = (k * 2 + 1) + 1 + 1 by omega]
    simp only [List.cons_append, List.nil_append, List.set_cons_succ, List.set_cons_succ]
    rw [ih]
    simp [flt, tyCs]
/-- A type stored into a row of the call's own. -/
theorem OwnTy.stored {B : Nat} {w : World} {g n c : Nat} {l : List Ty} (h : OwnTy B w (.slice (some ⟨g, 0, none⟩) n c) l) (hn : n = l.length) (k : Nat) (t : Ty) :
    OwnTy B ((w.setCell ⟨g, k * 2, none⟩ (.int .i64 t.kind)).setCell ⟨g, k * 2 + 1, none⟩ (.string t.cls)) (.slice (some ⟨g, 0, none⟩) n c) (l.set k t) := by
  subst hn
  unfold OwnTy at h ⊢
  have h1 := (h.stored (k * 2) (.int .i64 t.kind)).1
  have h2 := (h1.stored (k * 2 + 1) (.string t.cls)).1
  rw [flt_set] at h2
  rw [List.length_set]
  exact h2
theorem OwnTy.form {B : Nat} {w : World} {v : Value} {l : List Ty} (h : OwnTy B w v l) {k : Nat} {t : Ty} (ht : l[k]? = some t) :
    ∃ g c cs, v = .slice (some ⟨g, 0, none⟩) l.length c ∧ B ≤ g ∧ w.heap[g]? = some (.cells cs 48 (0, 0)) ∧ k * 2 + 1 < cs.size := by
  have hk := (List.getElem?_eq_some_iff.1 ht).1
  rcases h.2 with ⟨h1, h2⟩ | ⟨g, cap, cur, h1, h2, h3, h4, h5, h6, h7⟩
  · omega
  · exact ⟨g, cap, cur, h1, h2, h3, by omega⟩
theorem set_low {B : Nat} {w w1 : World} {g j : Nat} (h : Below B w w1) (hg : B ≤ g) (v : Value) : Below B w (w1.setCell ⟨g, j, none⟩ v) := h.setCell (p := ⟨g, j, none⟩) hg v
theorem cell_apart {W : World} {p a : Addr} {v : Value} (ha : a.block ≠ p.block) : (W.setCell p v).cell? a = W.cell? a := by
  unfold World.cell?
  rw [show (W.setCell p v).heap[a.block]? = W.heap[a.block]? from Below.heap_setCell W p v a.block ha]
theorem add_block (ad : Addr) (n : Nat) : (ad.add n).block = ad.block := by
  unfold Addr.add
  split <;> rfl
theorem apart2 {W : World} {ad a : Addr} {n m : Nat} {v v' u : Value} (ha : a.block ≠ ad.block) (h : W.cell? a = some u) : ((W.setCell (ad.add n) v).setCell ⟨(ad.add n).block, m, none⟩ v').cell? a = some u := by
  rw [cell_apart (by simpa [add_block] using ha), cell_apart (by simpa [add_block] using ha)]
  exact h
/-- The place of a local, as the walk spells it. -/
structure SlotAt (w : World) (ad : Addr) (k : Nat) : Prop where
  blk : ∃ cs, w.heap[ad.block]? = some (.cells cs 48 (0, 0))
  c0 : ∃ u, w.cell? (ad.add (k * 2)) = some u
  f0 : w.frozen? (ad.add (k * 2)) = false
  c1 : ∀ v, ∃ u, (w.setCell (ad.add (k * 2)) v).cell? ⟨(ad.add (k * 2)).block, (ad.add (k * 2)).off + 1, none⟩ = some u
  f1 : ∀ v, (w.setCell (ad.add (k * 2)) v).frozen? ⟨(ad.add (k * 2)).block, (ad.add (k * 2)).off + 1, none⟩ = false
theorem add_zero_off (g m : Nat) : (⟨g, 0, none⟩ : Addr).add m = ⟨g, m, none⟩ := by
  unfold Addr.add
  split
  · rename_i h
    rw [h]
  · simp
theorem RunAt.slot {B : Nat} {w : World} {rb fb : Nat} {r : Rn} (h : RunAt B w rb fb r) {g c n : Nat} (c2 : w.cell? ⟨rb, 2, none⟩ = some (.slice (some ⟨g, 0, none⟩) n c)) {k : Nat} {t : Ty} (ht : r.locals[k]? = some t) : SlotAt w ⟨g, 0, none⟩ k := by
  obtain ⟨_, L, S, q2, q3, q4, q5⟩ := h
  obtain ⟨g', c', cs, rfl, hg1, hg2, hg3⟩ := q3.form ht
  obtain ⟨_, _, d2, _, _, _, _⟩ := run_cells q2
  rw [c2] at d2
  simp only [Option.some.injEq, Value.slice.injEq, Addr.mk.injEq, and_true] at d2
  obtain ⟨rfl, rfl, rfl⟩ := d2
  refine ⟨⟨cs, hg2⟩, ?_, ?_, fun v => ?_, fun v => ?_⟩ <;> rw [add_zero_off]
  · exact ⟨cs[k * 2]'(by omega), by unfold World.cell?; rw [hg2]; simp⟩
  · unfold World.frozen?; rw [hg2]; simp
  · exact ⟨cs[k * 2 + 1]'(by omega), by
      unfold World.cell?
      rw [heap_set hg2]
      simp [Array.getElem?_setIfInBounds]⟩
  · unfold World.frozen?; rw [heap_set hg2]; simp
theorem RunAt.put {B : Nat} {w : World} {rb fb : Nat} {r : Rn} (h : RunAt B w rb fb r) {g c n : Nat} (c2 : w.cell? ⟨rb, 2, none⟩ = some (.slice (some ⟨g, 0, none⟩) n c)) {k : Nat} {t : Ty} (ht : r.locals[k]? = some t) (u : Ty) :
    RunAt B ((w.setCell (Addr.add ⟨g, 0, none⟩ (k * 2)) (.int .i64 u.kind)).setCell ⟨(Addr.add ⟨g, 0, none⟩ (k * 2)).block, (Addr.add ⟨g, 0, none⟩ (k * 2)).off + 1, none⟩ (.string u.cls)) rb fb ⟨r.locals.set k u, r.stack, r.e⟩ ∧
    Below B w ((w.setCell (Addr.add ⟨g, 0, none⟩ (k * 2)) (.int .i64 u.kind)).setCell ⟨(Addr.add ⟨g, 0, none⟩ (k * 2)).block, (Addr.add ⟨g, 0, none⟩ (k * 2)).off + 1, none⟩ (.string u.cls)) := by
  obtain ⟨hle, L, S, q2, q3, q4, q5⟩ := h
  obtain ⟨g', c', cs, rfl, hg1, hg2, hg3⟩ := q3.form ht
  obtain ⟨_, _, d2, _, _, _, _⟩ := run_cells q2
  rw [c2] at d2
  simp only [Option.some.injEq, Value.slice.injEq, Addr.mk.injEq, and_true] at d2
  obtain ⟨rfl, rfl, rfl⟩ := d2
  rw [add_zero_off]
  have hne : rb ≠ g := fun e => by
    subst e
    rw [q2] at hg2
    simp at hg2
  refine ⟨⟨hle, _, S, ?_, q3.stored rfl k u, ?_, q5⟩, set_low (set_low (Below.refl _ _) hg1 _) hg1 _⟩
  · rw [Below.heap_setCell _ _ _ _ hne, Below.heap_setCell _ _ _ _ hne]
    exact q2
  · have hS : some g ≠ S.ownBlock := fun e => q5 g rfl e.symm
    exact own_setCell (own_setCell q4 (p := ⟨g, k * 2, none⟩) hS _) (p := ⟨g, k * 2 + 1, none⟩) hS _
theorem ne_run {B : Nat} {w : World} {rb fb bx g : Nat} {r : Rn} {cs cs' : Array Value} (h : RunAt B w rb fb r) (hg : w.heap[g]? = some (.cells cs 48 (0, 0))) (hb : w.heap[bx]? = some (.cells cs' 26 (0, 0))) : rb ≠ g ∧ bx ≠ g := by
  obtain ⟨_, L, S, q2, _⟩ := h
  refine ⟨fun e => ?_, fun e => ?_⟩
  · rw [e, hg] at q2
    simp at q2
  · rw [e, hg] at hb
    simp at hb
theorem popR_loc (r : Rn) : (popR r).locals = r.locals := by
  unfold popR
  split
  · exact bad_loc r 81
  · rfl
set_option maxRecDepth 10000 in
set_option maxHeartbeats 400000 in
theorem store_any {B : Nat} {w : World} {rb fb pb : Nat} {p : Pg} {r : Rn} (h : RunAt B w rb fb r) (k : Nat) (t : Ty) (ht : r.locals[k]? = some t) :
    Calls Try.prog 80 #[.pointer (some ⟨rb, 0, none⟩), .agg #[.int .i64 5, .int .i64 k]] w fun x w' => x = .returned (.tuple #[]) ∧ RunAt B w' rb fb (⟨(popR r).locals.set k (popT r), (popR r).stack, (popR r).e⟩) ∧ Below B w w' := by
  have hs := h.size
  have hle := h.le
  have hrb := h.lt
  have hlen := h.len
  unfold maxLen at hlen
  have H := Aside0.mk h
  have HT := Aside0.mk ht
  have hlt : (k : Int) < (r.locals.length : Int) := by have := (List.getElem?_eq_some_iff.1 ht).1; omega
  have hk0 : (0 : Int) ≤ (k : Int) := by omega
  obtain ⟨W0, hW0⟩ : ∃ W0, w.alloc (.cells #[.int .i64 5, .int .i64 k] 26) = W0 := ⟨_, rfl⟩
  have hb0 : Below w.heap.size w W0.drew := by rw [← hW0]; exact below_drew (balloc _ _)
  have hz : W0.heap[w.heap.size]? = some (.cells #[.int .i64 5, .int .i64 k] 26 (0, 0)) := by rw [← hW0]; exact blk_new w _
  obtain ⟨z0, z1⟩ := Bx.two ⟨hz⟩
  have z1d : W0.drew.cell? ⟨w.heap.size, 1, none⟩ = some (.int .i64 k) := z1
  have H0 := Aside0.mk (h.below hb0)
  obtain ⟨_, L, S, q2, q3, q4, q5⟩ := H0.out
  obtain ⟨g, c, cs, rfl, hg1, hg2, hg3⟩ := q3.form ht
  obtain ⟨_, _, c2, _, _, _, _⟩ := run_cells q2
  have HZ := Aside0.mk hz
  have HB0 := Aside0.mk hb0
  have HRB := Lib.hid hrb
  obtain ⟨ad, had⟩ : ∃ ad : Addr, ad = ⟨g, 0, none⟩ := ⟨_, rfl⟩
  rw [← had] at c2
  have HAD := Lib.hid had
  clear h ht hz q2 q3 q4 q5 hg2 hg3 hb0 hrb had
  go_enter Try.func80, Try.ntmps80
  go_wp2_with fail
  clear hW0
  go_region_held3 (fun w' => w'.cell? ⟨rb, 2, none⟩ = some (.slice (some ad) r.locals.length c) ∧ w'.cell? ⟨w.heap.size, 1, none⟩ = some (.int .i64 k)) (first | (with_reducible exact ⟨c2, z1d⟩) | (with_reducible exact ⟨y2, y1⟩) | (with_reducible exact ⟨apart2 n1 y2, apart2 n2 y1⟩)) (first | (go_at_call 108; refine (pop_all H0.out).mono ?_; rintro e w1 ⟨rfl, hr1, hg1, hc1⟩; have y2 := hc1.trans c2; have y1 : w1.cell? ⟨w.heap.size, 1, none⟩ = some (.int .i64 k) := (Bx.two ⟨blk_grown (blk_drew HZ.out) hg1 (by have := HRB.out; intro e; cases e; omega)⟩).2; have R1 := Aside0.mk hr1; have G1 := Aside0.mk hg1; clear hr1 hg1 hc1; obtain ⟨⟨cs1, s4⟩, ⟨u0, s0⟩, s1, s2, s3⟩ := R1.out.slot (k := k) (t := t) (by rw [← HAD.out]; exact y2) (by rw [popR_loc]; exact HT.out); rw [← HAD.out] at s0 s1 s2 s3 s4; obtain ⟨u1, s2⟩ := s2 (.int .i64 (popT r).kind); have s3 := s3 (.int .i64 (popT r).kind); obtain ⟨n1, n2⟩ := ne_run R1.out s4 (blk_grown (blk_drew HZ.out) G1.out (by have := HRB.out; intro e; cases e; omega)); clear s4))
  all_goals
    go_wp2
    go_end0
    have HF := R1.out.put (k := k) (t := t) (by rw [← HAD.out]; exact y2) (by rw [popR_loc]; exact HT.out) (popT r)
    rw [← HAD.out] at HF
    exact ⟨rfl, HF.1, (HB0.out.mono hs).trans ((only_bel G1.out H0.out.size hle).trans HF.2)⟩
end Go.Proofs.Ytpdjkclacbgneaa
