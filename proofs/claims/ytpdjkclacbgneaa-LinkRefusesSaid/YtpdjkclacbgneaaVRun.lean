/- verify's run: its block; bad, push, pop. -/
import Derived.Test.YtpdjkclacbgneaaLink
import Derived.Test.YtpdjkclacbgneaaMrg
import Derived.Test.YtpdjkclacbgneaaVPure
import Derived.Deep.RegionLaw
set_option linter.unusedVariables false
set_option linter.unusedSimpArgs false
namespace Go.Proofs.Ytpdjkclacbgneaa
open Go.RowKit Go.Shelf Go.Proofs.YtpdjkclacbgneaaW.PrintWords Go.Proofs.Ytpdjkclacbgneaa.Pl

def flt (l : List Ty) : List Value := l.flatMap tyCs
/-- A row of types of the call's own. -/
def OwnTy (B : Nat) (w : World) (v : Value) (l : List Ty) : Prop := w.ownsRow B 48 2 v l.length (flt l)
theorem flt_len (l : List Ty) : (flt l).length = l.length * 2 := by
  induction l with
  | nil => rfl
  | cons a r ih => rw [flt, List.flatMap_cons, List.length_append]; rw [flt] at ih; rw [ih]; simp [tyCs]; omega
theorem flt_take (l : List Ty) (n : Nat) : (flt l).take (n * 2) = flt (l.take n) := by
  induction l generalizing n with
  | nil => simp [flt]
  | cons a r ih =>
    cases n with
    | zero => simp [flt]
    | succ n =>
      have := ih n
      rw [flt] at this ⊢
      rw [List.flatMap_cons, List.take_succ_cons, flt, List.flatMap_cons, show (n + 1) * 2 = (tyCs a).length + n * 2 by simp [tyCs]; omega, List.take_length_add_append, this, flt]
theorem flt_app (l m : List Ty) : flt (l ++ m) = flt l ++ flt m := by simp [flt]
theorem OwnTy.below {B : Nat} {w w1 : World} {v : Value} {l : List Ty} (h : OwnTy B w v l) (hb : Below w.heap.size w w1) : OwnTy B w1 v l := pw_own_below h hb
def runCs (fb : Nat) (L S : Value) (e : Int) : Array Value := #[.pointer (some ⟨fb, 0, none⟩), .bool true, L, S, .slice none 0 0, .int .i64 e]
/-- The run that the block rb is. -/
structure RunAt (B : Nat) (w : World) (rb fb : Nat) (r : Rn) : Prop where
  le : B ≤ rb
  out : ∃ L S, w.heap[rb]? = some (.cells (runCs fb L S r.e) 151 (0, 0)) ∧ OwnTy B w L r.locals ∧ OwnTy B w S r.stack ∧ NeRow L S
theorem RunAt.below {B : Nat} {w w1 : World} {rb fb : Nat} {r : Rn} (h : RunAt B w rb fb r) (hb : Below w.heap.size w w1) : RunAt B w1 rb fb r := by
  obtain ⟨h1, L, S, h2, h3, h4, h5⟩ := h
  exact ⟨h1, L, S, blk_below h2 hb, h3.below hb, h4.below hb, h5⟩
theorem RunAt.lt {B : Nat} {w : World} {rb fb : Nat} {r : Rn} (h : RunAt B w rb fb r) : rb < w.heap.size := by
  obtain ⟨h1, L, S, h2, _⟩ := h
  exact blk_lt h2
theorem RunAt.size {B : Nat} {w : World} {rb fb : Nat} {r : Rn} (h : RunAt B w rb fb r) : B ≤ w.heap.size := by
  have := h.lt
  have := h.le
  omega
theorem heap_set {W : World} {g i : Nat} {cs : Array Value} {t : TypeId} {u : Value} (h : W.heap[g]? = some (.cells cs t (0, 0))) : (W.setCell ⟨g, i, none⟩ u).heap[g]? = some (.cells (cs.setIfInBounds i u) t (0, 0)) := by
  simp [World.setCell, Array.getElem?_modify, h]
theorem own_set {B : Nat} {W : World} {g i : Nat} {cs : Array Value} {t : TypeId} {v u : Value} {l : List Ty} (h : OwnTy B W v l) (hg : W.heap[g]? = some (.cells cs t (0, 0))) (ht : 48 ≠ t) : OwnTy B (W.setCell ⟨g, i, none⟩ u) v l := own_setCell h (p := ⟨g, i, none⟩) (own_ne h hg ht) u
/-- The run's error is told. -/
theorem RunAt.err {B : Nat} {w : World} {rb fb : Nat} {r : Rn} (h : RunAt B w rb fb r) (e : Int) : RunAt B (w.setCell ⟨rb, 5, none⟩ (.int .i64 e)) rb fb ⟨r.locals, r.stack, e⟩ := by
  obtain ⟨h1, L, S, h2, h3, h4, h5⟩ := h
  exact ⟨h1, L, S, by rw [heap_set h2]; rfl, own_set h3 h2 (by decide), own_set h4 h2 (by decide), h5⟩
/-- Another row is the run's stack. -/
theorem RunAt.stk {B : Nat} {w : World} {rb fb : Nat} {r : Rn} {L S : Value} {st : List Ty} (hB : B ≤ rb) (h2 : w.heap[rb]? = some (.cells (runCs fb L S r.e) 151 (0, 0))) (h3 : OwnTy B w L r.locals) {S' : Value} (h4 : OwnTy B w S' st) (h5 : NeRow L S') : RunAt B (w.setCell ⟨rb, 3, none⟩ S') rb fb ⟨r.locals, st, r.e⟩ :=
  ⟨hB, L, S', by rw [heap_set h2]; rfl, own_set h3 h2 (by decide), own_set h4 h2 (by decide), h5⟩
theorem run_cells {w : World} {rb fb : Nat} {L S : Value} {e : Int} (h : w.heap[rb]? = some (.cells (runCs fb L S e) 151 (0, 0))) :
    w.cell? ⟨rb, 0, none⟩ = some (.pointer (some ⟨fb, 0, none⟩)) ∧ w.cell? ⟨rb, 1, none⟩ = some (.bool true) ∧ w.cell? ⟨rb, 2, none⟩ = some L ∧ w.cell? ⟨rb, 3, none⟩ = some S ∧ w.cell? ⟨rb, 4, none⟩ = some (.slice none 0 0) ∧ w.cell? ⟨rb, 5, none⟩ = some (.int .i64 e) ∧ ∀ i, w.frozen? ⟨rb, i, none⟩ = false := by
  have hc : ∀ i, w.cell? ⟨rb, i, none⟩ = (runCs fb L S e)[i]? := fun i => by simp [World.cell?, h]
  refine ⟨hc 0, hc 1, hc 2, hc 3, hc 4, hc 5, fun i => ?_⟩
  simp [World.frozen?, h]
/-- The world in which an error is told. -/
def badW (w : World) (rb : Nat) (r : Rn) (e : Int) : World := if r.e = 0 then w.setCell ⟨rb, 5, none⟩ (.int .i64 e) else w
theorem RunAt.bad {B : Nat} {w : World} {rb fb : Nat} {r : Rn} (h : RunAt B w rb fb r) (e : Int) : RunAt B (badW w rb r e) rb fb (Pl.bad r e) ∧ Below B w (badW w rb r e) ∧ (badW w rb r e).heap.size = w.heap.size := by
  unfold badW Pl.bad
  by_cases he : r.e = 0
  · rw [if_pos he, if_pos he]
    exact ⟨h.err e, (Below.refl B w).setCell (p := ⟨rb, 5, none⟩) h.le _, by simp [World.setCell]⟩
  · rw [if_neg he, if_neg he]
    exact ⟨h, Below.refl B w, rfl⟩
theorem only_alloc {w W : World} {row : Option Nat} (h : w.grownBy W row) (o : Obj) : w.grownBy (W.alloc o) row := ⟨h.os, h.tape, h.output, by have := h.size; simp; omega, fun k hk hr => (Below.heap_alloc W o k (by have := h.size; omega)).trans (h.block k hk hr)⟩
theorem only_high {w W : World} {row : Option Nat} (h : w.grownBy W row) {g j : Nat} (hg : w.heap.size ≤ g) (v : Value) : w.grownBy (W.setCell ⟨g, j, none⟩ v) row := ⟨h.os, h.tape, h.output, by have := h.size; simp [World.setCell]; omega, fun k hk hr => (Below.heap_setCell W ⟨g, j, none⟩ v k (by simp; omega)).trans (h.block k hk hr)⟩
theorem only_set {w W : World} {rb : Nat} (h : w.grownBy W (some rb)) (j : Nat) (v : Value) : w.grownBy (W.setCell ⟨rb, j, none⟩ v) (some rb) := ⟨h.os, h.tape, h.output, by have := h.size; simp [World.setCell]; omega, fun k hk hr => (Below.heap_setCell W ⟨rb, j, none⟩ v k (fun e => hr (by rw [e]))).trans (h.block k hk hr)⟩
theorem only_below {w W W' : World} {row : Option Nat} (h : w.grownBy W row) (hb : Below W.heap.size W W') : w.grownBy W' row := ⟨hb.os.trans h.os, hb.tape.trans h.tape, hb.output.trans h.output, Nat.le_trans h.size hb.size, fun k hk hr => (hb.block k (by have := h.size; omega)).trans (h.block k hk hr)⟩
theorem only_then {w W W' : World} {row : Option Nat} (h : w.grownBy W row) (hb : W.grownBy W' row) : w.grownBy W' row := ⟨hb.os.trans h.os, hb.tape.trans h.tape, hb.output.trans h.output, Nat.le_trans h.size hb.size, fun k hk hr => (hb.block k (by have := h.size; omega) hr).trans (h.block k hk hr)⟩
theorem only_refl (w : World) (row : Option Nat) : w.grownBy w row := ⟨rfl, rfl, rfl, Nat.le_refl _, fun _ _ _ => rfl⟩
theorem only_bel {B rb : Nat} {w W : World} (h : w.grownBy W (some rb)) (hs : B ≤ w.heap.size) (hle : B ≤ rb) : Below B w W := pw_below_grown (Below.refl B w) (some rb) hs h (fun k e => by cases e; exact hle)
theorem only_badW (w : World) (rb : Nat) (r : Rn) (e : Int) : w.grownBy (badW w rb r e) (some rb) := by
  unfold badW
  split
  · exact only_set (only_refl w _) _ _
  · exact only_refl w _
/-- Below n the heap is the same. -/
def Low (n : Nat) (w W : World) : Prop := ∀ i, i < n → W.heap[i]? = w.heap[i]?
theorem Low.refl (n : Nat) (w : World) : Low n w w := fun _ _ => rfl
theorem Low.alloc {n : Nat} {w W : World} (h : Low n w W) (hn : n ≤ W.heap.size) (o : Obj) : Low n w (W.alloc o) := fun i hi => (Below.heap_alloc W o i (by omega)).trans (h i hi)
theorem Low.high {n : Nat} {w W : World} (h : Low n w W) {g j : Nat} (hg : n ≤ g) (v : Value) : Low n w (W.setCell ⟨g, j, none⟩ v) := fun i hi => (Below.heap_setCell W ⟨g, j, none⟩ v i (by simp; omega)).trans (h i hi)
theorem Low.both {n : Nat} {w W : World} (h : Low n w W) (p : Addr) (v : Value) : Low n (w.setCell p v) (W.setCell p v) := fun i hi => by
  have := h i hi
  simp only [World.setCell, Array.getElem?_modify, this]
theorem RunAt.move {B : Nat} {w W : World} {rb fb : Nat} {r : Rn} (h : RunAt B w rb fb r) (hm : Low w.heap.size w W) : RunAt B W rb fb r := by
  have hl := h.lt
  obtain ⟨h1, L, S, h2, h3, h4, h5⟩ := h
  exact ⟨h1, L, S, (hm rb hl).trans h2, own_move h3 (fun k hk => hm k (own_lt h3 k hk)), own_move h4 (fun k hk => hm k (own_lt h4 k hk)), h5⟩
theorem Low.badW {n : Nat} {w W : World} (h : Low n w W) (rb : Nat) (r : Rn) (e : Int) : Low n (badW w rb r e) (badW W rb r e) := by
  unfold Go.Proofs.Ytpdjkclacbgneaa.badW
  by_cases he : r.e = 0
  · rw [if_pos he, if_pos he]
    exact h.both _ _
  · rw [if_neg he, if_neg he]
    exact h
/-- verify.kind. -/
theorem kind_any (k : Int) (w : World) : Calls Try.prog 79 #[.int .i64 k] w fun e w' => e = .returned (.agg #[.int .i64 k, .string ⟨#[]⟩]) ∧ w' = w.alloc (.cells #[.int .i64 k, .string ⟨#[]⟩] 48) := by
  go_enter Try.func79, Try.ntmps79
  go_wp2
  refine bodyPost_ret (results_cell_row rfl _ _ _ _ _ _ _ rfl (blk_new _ _) Try.underlying48 rfl (by kernel_rfl)) rfl ?_
  exact ⟨rfl, rfl⟩
set_option maxHeartbeats 400000 in
theorem bad_any {B : Nat} {w : World} {rb fb : Nat} {r : Rn} (h : RunAt B w rb fb r) (e : Int) : Calls Try.prog 107 #[.pointer (some ⟨rb, 0, none⟩), .int .i64 e] w fun x w' => x = .returned (.tuple #[]) ∧ w' = badW w rb r e := by
  have hs := h.size
  obtain ⟨L, S, h2, _⟩ := h.out
  obtain ⟨_, _, _, _, _, c5, f⟩ := run_cells h2
  have f5 := f 5
  have H := Aside0.mk h
  clear h h2 f
  go_enter Try.func107, Try.ntmps107
  by_cases he : r.e = 0
  · have HR : Hid (badW w rb r e = w.setCell ⟨rb, 5, none⟩ (.int .i64 e)) := Lib.hid (by unfold badW; rw [if_pos he])
    have he' : (r.e == 0) = true := by rw [he]; rfl
    clear he
    go_wp2
    go_end0
    rw [HR.out]
    exact ⟨rfl, rfl⟩
  · have HR : Hid (badW w rb r e = w) := Lib.hid (by unfold badW; rw [if_neg he])
    have he' : (r.e == 0) = false := by rw [beq_eq_false_iff_ne]; exact he
    clear he
    go_wp2
    go_end0
    rw [HR.out]
    exact ⟨rfl, rfl⟩
theorem tyInfo : (Try.prog.info? 48).map (fun i => (i.zero, i.size, i.bytes)) = some (some (.agg #[.int .i64 0, .string ⟨#[]⟩]), 2, 24) := by kernel_rfl
/-- A type appended out of a box. -/
theorem app_ty {B : Nat} {W : World} {v : Value} {l : List Ty} {t : Ty} {bx : Nat} (ty : TypeId) (h : OwnTy B W v l) (hB : B ≤ W.heap.size) (hbx : W.heap[bx]? = some (.cells #[.int .i64 t.kind, .string t.cls] 48 (0, 0))) (hl : l.length ≤ 1000) :
    ∃ v1 w1, (Builtin.append_ #[63, 63] ty #[v, .slice (some ⟨bx, 0, none⟩) 1 1]).run Try.prog W = .ok v1 w1 ∧ OwnTy B w1 v1 (l ++ [t]) ∧ W.grownBy w1 v.ownBlock ∧ (v1.ownBlock = v.ownBlock ∨ ∃ b, v1.ownBlock = some b ∧ W.heap.size ≤ b) := by
  obtain ⟨i0, hi, hzz⟩ := Option.map_eq_some_iff.1 tyInfo
  simp only [Prod.mk.injEq] at hzz
  obtain ⟨hz0, hz1, hz2⟩ := hzz
  have hst : Try.prog.underlying 63 = some (.slice 48) := Try.underlying63
  obtain ⟨v1, w1, hrun, h2, hg, _, hat⟩ := run_append_own_at (P := Try.prog) (w := W) B 63 ty 48 i0 (.agg #[.int .i64 0, .string ⟨#[]⟩]) 2 24 hst hi hz0 hz1 hz2 rfl (by decide) v l.length (flt l) h ⟨bx, 0, none⟩ 1 1 [.int .i64 t.kind, .string t.cls] rfl
    (World.news_of_block hbx) (by simp [Value.oneCell']) (by simp only [maxLen]; omega) (by omega) hB
  refine ⟨v1, w1, hrun, ?_, hg, ?_⟩
  · unfold OwnTy
    rw [flt_app, List.length_append]
    exact h2
  · rcases hat with hat | hat
    · exact .inl hat
    · exact .inr ⟨_, hat, Nat.le_refl _⟩
set_option maxRecDepth 10000 in
set_option maxHeartbeats 400000 in
theorem push_any {B : Nat} {w : World} {rb fb : Nat} {r : Rn} (h : RunAt B w rb fb r) (hl : r.stack.length ≤ 1000) (t : Ty) : Calls Try.prog 106 #[.pointer (some ⟨rb, 0, none⟩), .agg #[.int .i64 t.kind, .string t.cls]] w fun x w' => x = .returned (.tuple #[]) ∧ RunAt B w' rb fb (push r t) ∧ Below B w w' := by
  have hs := h.size
  have hlt := h.lt
  obtain ⟨hle, L, S, h2, h3, h4, h5⟩ := h
  obtain ⟨_, _, _, c3, _, _, f⟩ := run_cells h2
  have f3 := f 3
  have b1 : Below w.heap.size w ((w.alloc (tyO t)).alloc (tyO t)).drew := below_drew (bthen (balloc w (tyO t)) (balloc _ (tyO t)))
  obtain ⟨v1, w1, E1, h6, hg, hat⟩ := app_ty (t := t) (bx := w.heap.size + 1) 63 (h4.below b1) (by simp; omega) (by have := blk_drew (blk_new (w.alloc (tyO t)) (tyO t)); rw [World.size_alloc] at this; exact this) hl
  unfold tyO at E1
  obtain ⟨A1, c1, hv1⟩ := own_slice h6
  rw [List.length_append, show [t].length = 1 from rfl] at hv1
  have hne : some rb ≠ S.ownBlock := own_ne h4 h2 (by decide)
  have k2 : w1.heap[rb]? = some (.cells (runCs fb L S r.e) 151 (0, 0)) := blk_grown (blk_below h2 b1) hg hne
  obtain ⟨_, _, _, y3, _, _, yf⟩ := run_cells k2
  have y4 := yf 3
  have hLne : L.ownBlock = none ∨ L.ownBlock ≠ S.ownBlock := ne_other (ne_symm h5)
  have k3 : OwnTy B w1 L r.locals := own_other (h3.below b1) hg hLne
  have k5 : NeRow L v1 := ne_append' h5 (hat.imp id fun ⟨b, h, hb⟩ => ⟨b, h, hb⟩) (h3.below b1)
  have HR : Aside0 (RunAt B (w1.setCell ⟨rb, 3, none⟩ v1) rb fb (push r t)) := ⟨RunAt.stk hle k2 k3 h6 k5⟩
  have HB : Aside0 (Below B w (w1.setCell ⟨rb, 3, none⟩ v1)) := ⟨(((b1.mono hs).grown hg (by simp; omega) (fun k hk => own_base h4 k hk)).setCell (p := ⟨rb, 3, none⟩) hle _)⟩
  have hnS : some w.heap.size ≠ S.ownBlock := fun e => by have := own_lt h4 _ e.symm; omega
  have q0 : (w.alloc (tyO t)).drew.heap[w.heap.size]? = some (tyO t) := blk_new w (tyO t)
  have q1 : ((w.alloc (tyO t)).alloc (tyO t)).drew.heap[w.heap.size]? = some (tyO t) := blk_alloc (blk_new w (tyO t)) _
  have q2 : w1.heap[w.heap.size]? = some (tyO t) := blk_grown q1 hg hnS
  have q3 : (w1.setCell ⟨rb, 3, none⟩ v1).heap[w.heap.size]? = some (tyO t) := by rw [Below.heap_setCell w1 ⟨rb, 3, none⟩ v1 _ (by simp; omega)]; exact q2
  obtain ⟨p0, p0'⟩ := Bx.two ⟨q0⟩
  obtain ⟨p1, p1'⟩ := Bx.two ⟨q1⟩
  obtain ⟨p2, p2'⟩ := Bx.two ⟨q2⟩
  obtain ⟨p3, p3'⟩ := Bx.two ⟨q3⟩
  have z0 : (w.alloc (.cells #[.int .i64 t.kind, .string t.cls] 48)).drew.cell? ⟨rb, 3, none⟩ = some S := pw_cell_below (below_drew (balloc w _)) c3
  have z1 : ((w.alloc (.cells #[.int .i64 t.kind, .string t.cls] 48)).alloc (.cells #[.int .i64 t.kind, .string t.cls] 48)).drew.cell? ⟨rb, 3, none⟩ = some S := pw_cell_below (below_drew (bthen (balloc w _) (balloc _ _))) c3
  unfold tyO at p0 p0' p1 p1'
  subst hv1
  clear f h2 b1 h3 h4 h5 h6 hg hat hne k2 yf hLne k3 k5 hnS q0 q1 q2 q3
  go_enter Try.func106, Try.ntmps106
  go_wp2
  go_region_law (first | (refine append_event (v := S) (u := .slice (some ⟨w.heap.size + 1, 0, none⟩) 1 1) _ _ (by rfl) rfl rfl rfl (by with_reducible exact E1) ?_))
  all_goals
    go_wp2
    go_end0
    exact ⟨rfl, HR.out, HB.out⟩
theorem flt_at : ∀ (l : List Ty) (j : Nat) (t : Ty), l[j]? = some t → ((flt l).drop (j * 2)).take 2 = tyCs t
  | [], j, t, h => by simp at h
  | a :: r, 0, t, h => by
    rw [List.getElem?_cons_zero] at h
    cases h
    simp [flt, tyCs]
  | a :: r, j + 1, t, h => by
    rw [List.getElem?_cons_succ] at h
    have := flt_at r j t h
    rw [flt] at this ⊢
    rw [List.flatMap_cons, show (j + 1) * 2 = (tyCs a).length + j * 2 by simp [tyCs]; omega, List.drop_length_add_append]
    exact this
theorem tyK_cs (w : World) (t : Ty) : tyK.K w t (tyCs t) := ⟨[.int .i64 t.kind], [.string t.cls], rfl, rfl, rfl⟩
theorem OwnTy.reads {B : Nat} {w : World} {v : Value} {l : List Ty} (h : OwnTy B w v l) : ∃ A c, v = .slice A l.length c ∧ l.length ≤ c ∧ tyK.C w A l.length l := by
  obtain ⟨A, c, hv, hr⟩ := own_reads_row (R := tyK.K w) (ps := l) h ⟨flt_len l, fun j p hj => by rw [flt_at l j p hj]; exact tyK_cs w p⟩ rfl
  refine ⟨A, c, hv, ?_, hr⟩
  subst hv
  exact own_le h
theorem OwnTy.cut {B : Nat} {w : World} {A : Option Addr} {n m c : Nat} {l : List Ty} (h : OwnTy B w (.slice A n c) l) (hn : n = l.length) (hm : m ≤ n) : OwnTy B w (.slice A m c) (l.take m) := by
  subst hn
  have h1 : (l.take m).length = m := by rw [List.length_take]; omega
  unfold OwnTy
  rw [h1, ← flt_take]
  exact own_take h hm
theorem OwnTy.slice {B : Nat} {w : World} {v : Value} {l : List Ty} (h : OwnTy B w v l) : ∃ A c, v = .slice A l.length c := own_slice h
theorem cell2_set (W : World) (rb j : Nat) (v : Value) (hj : j ≠ 2) : (W.setCell ⟨rb, j, none⟩ v).cell? ⟨rb, 2, none⟩ = W.cell? ⟨rb, 2, none⟩ := by
  unfold World.cell? World.setCell
  simp only [Array.getElem?_modify]
  cases W.heap[rb]? with
  | none => rfl
  | some o => cases o <;> simp [Array.getElem?_setIfInBounds, hj]
theorem cell2_badW (W : World) (rb : Nat) (r : Rn) (e : Int) : (badW W rb r e).cell? ⟨rb, 2, none⟩ = W.cell? ⟨rb, 2, none⟩ := by
  unfold badW
  split
  · exact cell2_set W rb 5 _ (by decide)
  · rfl
set_option maxRecDepth 10000 in
set_option maxHeartbeats 400000 in
theorem pop_all {B : Nat} {w : World} {rb fb : Nat} {r : Rn} (h : RunAt B w rb fb r) : Calls Try.prog 108 #[.pointer (some ⟨rb, 0, none⟩)] w fun x w' => x = .returned (.agg #[.int .i64 (popT r).kind, .string (popT r).cls]) ∧ RunAt B w' rb fb (popR r) ∧ w.grownBy w' (some rb) ∧ w'.cell? ⟨rb, 2, none⟩ = w.cell? ⟨rb, 2, none⟩ := by
  have hs := h.size
  have hlt := h.lt
  have HA := Aside0.mk h
  obtain ⟨hle, L, S, h2, h3, h4, h5⟩ := h
  obtain ⟨_, _, _, c3, _, _, f⟩ := run_cells h2
  have f3 := f 3
  obtain ⟨A, c, rfl, hc, hr⟩ := h4.reads
  have CC := cells_ty hr
  clear f hr
  obtain ⟨hk, hkk⟩ : ∃ k, r.stack.length = k := ⟨_, rfl⟩
  cases hk with
  | zero =>
    have HT : Hid (popT r = kindT 6) := Lib.hid (by unfold popT; rw [if_pos hkk])
    have HR : Hid (popR r = bad r 81) := Lib.hid (by unfold popR; rw [if_pos hkk])
    rw [hkk] at c3
    rw [HT.out]
    clear h2 h3 h4 h5 hc CC hkk
    go_enter Try.func108, Try.ntmps108
    go_wp2_with fail
    refine (bad_any (HA.out.below (balloc w _)) 81).mono ?_
    rintro e w1 ⟨rfl, hw0⟩
    have hw1 := Lib.hid hw0
    clear hw0
    go_wp2_with fail
    refine (kind_any 6 w1).mono ?_
    rintro e w2 ⟨rfl, hw2⟩
    have e1 : Low w.heap.size (badW w rb r 81) w1 := by rw [hw1.out]; exact ((Low.refl _ _).alloc (Nat.le_refl _) _).badW rb r 81
    have s1 : w1.heap.size = w.heap.size + 1 := by rw [hw1.out, ((HA.out.below (balloc w _)).bad 81).2.2]; simp
    have b1 : w.grownBy w1 (some rb) := by rw [hw1.out]; exact only_then (only_alloc (only_refl w _) _) (only_badW _ _ _ _)
    have e2 : Low w.heap.size (badW w rb r 81) w2 := by rw [hw2]; exact e1.alloc (by omega) _
    have b2 : w.grownBy w2 (some rb) := by rw [hw2]; exact only_alloc b1 _
    have g1 : w1.heap[w.heap.size]? = some (.cells #[.int .i64 0, .string ⟨#[]⟩] 48 (0, 0)) := by
      rw [hw1.out]
      unfold badW
      split
      · rw [Below.heap_setCell _ _ _ _ (by simp; omega)]
        exact blk_new _ _
      · exact blk_new _ _
    have g2 : w2.heap[w.heap.size]? = some (.cells #[.int .i64 0, .string ⟨#[]⟩] 48 (0, 0)) := by rw [hw2]; exact blk_alloc g1 _
    obtain ⟨z0, z1⟩ := Bx.two ⟨g2⟩
    have hfz : ∀ j, w2.frozen? ⟨w.heap.size, j, none⟩ = false := fun j => by unfold World.frozen?; rw [g2]; simp
    have g3 : ((w2.setCell ⟨w.heap.size, 0, none⟩ (.int .i64 6)).setCell ⟨w.heap.size, 1, none⟩ (.string ⟨#[]⟩)).heap[w.heap.size]? = some (.cells #[.int .i64 6, .string ⟨#[]⟩] 48 (0, 0)) := by rw [heap_set (heap_set g2)]; rfl
    have b3 : w.grownBy ((w2.setCell ⟨w.heap.size, 0, none⟩ (.int .i64 6)).setCell ⟨w.heap.size, 1, none⟩ (.string ⟨#[]⟩)) (some rb) := only_high (only_high b2 (Nat.le_refl _) _) (Nat.le_refl _) _
    have r3 : RunAt B ((w2.setCell ⟨w.heap.size, 0, none⟩ (.int .i64 6)).setCell ⟨w.heap.size, 1, none⟩ (.string ⟨#[]⟩)) rb fb (popR r) := by
      rw [HR.out]
      refine (HA.out.bad 81).1.move ?_
      rw [(HA.out.bad 81).2.2]
      exact (e2.high (Nat.le_refl _) _).high (Nat.le_refl _) _
    have k3 : Aside0 (((w2.setCell ⟨w.heap.size, 0, none⟩ (.int .i64 6)).setCell ⟨w.heap.size, 1, none⟩ (.string ⟨#[]⟩)).cell? ⟨rb, 2, none⟩ = w.cell? ⟨rb, 2, none⟩) := ⟨by
      rw [cell_set (by simp; omega), cell_set (by simp; omega), hw2, (balloc w1 _).cell (p := ⟨rb, 2, none⟩) (by simp; omega), hw1.out, cell2_badW, (balloc w _).cell (p := ⟨rb, 2, none⟩) hlt]⟩
    have r3 := Aside0.mk r3
    have b3 := Aside0.mk b3
    have g3 := Aside0.mk g3
    clear e1 s1 b1 e2 b2 g1 g2 hw2
    go_wp2
    refine bodyPost_ret (results_cell_row rfl _ _ _ _ _ _ _ rfl g3.out Try.underlying48 rfl (by kernel_rfl)) rfl ?_
    exact ⟨rfl, r3.out, b3.out, k3.out⟩
  | succ k =>
    rw [hkk] at c3 CC hc
    have hx : r.stack[k]? = some (r.stack.getD k default) := getD_some _ (by omega)
    have HT : Hid (popT r = r.stack.getD k default) := Lib.hid (by unfold popT; rw [if_neg (by omega), hkk]; rfl)
    have HR : Hid (popR r = ⟨r.locals, r.stack.take k, r.e⟩) := Lib.hid (by unfold popR; rw [if_neg (by omega), hkk]; rfl)
    obtain ⟨ad, rfl, had⟩ := CC.2 (by omega)
    clear had
    have l0 := CC.at0 (j := k) (by omega) rfl
    have l1 := CC.at_ (j := k) (i := 1) (by omega) (by decide) rfl
    generalize r.stack.getD k default = t at HT l0 l1
    rw [HT.out]
    have HS : Aside0 (OwnTy B w (.slice (some ad) k c) (r.stack.take k)) := ⟨h4.cut rfl (by omega)⟩
    have H2 := Aside0.mk h2
    have H3 := Aside0.mk h3
    have H5 := Aside0.mk h5
    have hkz : (0 : Int) ≤ (k : Int) := by omega
    have hkc : (k : Int) ≤ (c : Int) := by omega
    have hk63 : (k : Int) < 9223372036854775807 := by have := CC.1; omega
    clear h2 h3 h4 h5 hx hc CC hkk HT
    go_enter Try.func108, Try.ntmps108
    have hwk : wrap64 (k : Int) = k := by unfold wrap64; omega
    have hkd : ¬ (k : Int) < 0 := by omega
    have m0 : (w.alloc (.cells #[.int .i64 0, .string ⟨#[]⟩] 48)).cell? (ad.add (k * 2)) = some (.int .i64 t.kind) := pw_cell_below (balloc w _) l0
    have m1 : (w.alloc (.cells #[.int .i64 0, .string ⟨#[]⟩] 48)).cell? ⟨(ad.add (k * 2)).block, (ad.add (k * 2)).off + 1, none⟩ = some (.string t.cls) := pw_cell_below (balloc w _) l1
    clear hk63 l0 l1
    go_wp2
    rw [HR.out]
    have r1 : RunAt B (w.setCell ⟨rb, 3, none⟩ (.slice (some ad) k c)) rb fb ⟨r.locals, r.stack.take k, r.e⟩ := RunAt.stk hle H2.out H3.out HS.out (fun j hj => H5.out j hj)
    have z1 : (w.setCell ⟨rb, 3, none⟩ (.slice (some ad) k c)).heap.size = w.heap.size := by simp [World.setCell]
    have g1 : ((w.setCell ⟨rb, 3, none⟩ (.slice (some ad) k c)).alloc (.cells #[.int .i64 t.kind, .string t.cls] 48)).heap[w.heap.size]? = some (.cells #[.int .i64 t.kind, .string t.cls] 48 (0, 0)) := by
      have := blk_new (w.setCell ⟨rb, 3, none⟩ (.slice (some ad) k c)) (.cells #[.int .i64 t.kind, .string t.cls] 48)
      rwa [z1] at this
    refine bodyPost_ret (results_cell_row rfl _ _ _ _ _ _ _ rfl (blk_alloc g1 _) Try.underlying48 rfl (by kernel_rfl)) rfl ?_
    refine ⟨rfl, (r1.below (balloc _ _)).below (balloc _ _), only_alloc (only_alloc (only_set (only_refl w _) _ _) _) _, ?_⟩
    rw [(balloc _ _).cell (p := ⟨rb, 2, none⟩) (by rw [World.size_alloc, z1]; simp; omega), (balloc _ _).cell (p := ⟨rb, 2, none⟩) (by rw [z1]; exact hlt)]
    rw [cell2_set w rb 3 _ (by decide)]
    assumption
theorem pop_any {B : Nat} {w : World} {rb fb : Nat} {r : Rn} (h : RunAt B w rb fb r) : Calls Try.prog 108 #[.pointer (some ⟨rb, 0, none⟩)] w fun x w' => x = .returned (.agg #[.int .i64 (popT r).kind, .string (popT r).cls]) ∧ RunAt B w' rb fb (popR r) ∧ w.grownBy w' (some rb) :=
  (pop_all h).mono fun _ _ ⟨a, b, c, _⟩ => ⟨a, b, c⟩
end Go.Proofs.Ytpdjkclacbgneaa
