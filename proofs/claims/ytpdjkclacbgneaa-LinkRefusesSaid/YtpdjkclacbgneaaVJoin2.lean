/- verify's joins: a state that is merged with the one that was there. -/
import Derived.Test.YtpdjkclacbgneaaVJoin1
set_option linter.unusedVariables false
set_option linter.unusedSimpArgs false
namespace Go.Proofs.Ytpdjkclacbgneaa
open Go.RowKit Go.Shelf Go.Proofs.YtpdjkclacbgneaaW.PrintWords Go.Proofs.Ytpdjkclacbgneaa.Pl

theorem mergeL_len (p : Pg) : ∀ (ws ss : List Ty), (mergeL p ws ss).length = ws.length
  | [], [] => rfl
  | [], _ :: _ => rfl
  | w :: ws, [] => rfl
  | w :: ws, s :: ss => by simp [mergeL, mergeL_len p ws ss]
theorem mergeL_nil (p : Pg) (ws : List Ty) : mergeL p ws [] = ws := by cases ws <;> rfl
/-- One place more is merged. -/
theorem mergeL_step (p : Pg) : ∀ (ws ss : List Ty) (k : Nat) (a b : Ty), ws[k]? = some a → ss[k]? = some b → mergeL p ws (ss.take (k + 1)) = (mergeL p ws (ss.take k)).set k (merge p.h a b)
  | [], ss, k, a, b, h, _ => by simp at h
  | w :: ws, [], k, a, b, _, h => by simp at h
  | w :: ws, s :: ss, 0, a, b, h1, h2 => by
    simp only [List.getElem?_cons_zero, Option.some.injEq] at h1 h2
    subst h1 h2
    simp [mergeL, mergeL_nil]
  | w :: ws, s :: ss, k + 1, a, b, h1, h2 => by
    simp only [List.getElem?_cons_succ] at h1 h2
    simp only [List.take_succ_cons, mergeL, List.set_cons_succ, List.cons.injEq, true_and]
    exact mergeL_step p ws ss k a b h1 h2
theorem mergeL_at (p : Pg) : ∀ (ws ss : List Ty) (k : Nat) (a b : Ty), ws[k]? = some a → ss[k]? = some b → (mergeL p ws ss)[k]? = some (merge p.h a b)
  | [], ss, k, a, b, h, _ => by simp at h
  | w :: ws, [], k, a, b, _, h => by simp at h
  | w :: ws, s :: ss, 0, a, b, h1, h2 => by
    simp only [List.getElem?_cons_zero, Option.some.injEq] at h1 h2
    subst h1 h2
    rfl
  | w :: ws, s :: ss, k + 1, a, b, h1, h2 => by
    simp only [List.getElem?_cons_succ] at h1 h2
    simp only [mergeL, List.getElem?_cons_succ]
    exact mergeL_at p ws ss k a b h1 h2
/-- While a state is merged: the boxes of both, and that of the next one. -/
structure MrgAt (w W : World) (bn : Nat) (os ow : Array Value) (nl ns : List Ty) (An : Option Addr) (cn : Nat) (As : Option Addr) (cs : Nat) : Prop where
  bel : Below w.heap.size w W
  bs : W.heap[w.heap.size]? = some (.cells os ST (0, 0))
  bw : W.heap[w.heap.size + 1]? = some (.cells ow ST (0, 0))
  bx : W.heap[bn]? = some (.cells (stV true An nl.length cn As ns.length cs) ST (0, 0))
  far : w.heap.size + 1 < bn
  own1 : OwnTy w.heap.size W (.slice An nl.length cn) nl
  own2 : OwnTy w.heap.size W (.slice As ns.length cs) ns
  ne : NeRow (.slice An nl.length cn) (.slice As ns.length cs)
theorem MrgAt.below {w W W1 : World} {bn : Nat} {os ow : Array Value} {nl ns : List Ty} {An As : Option Addr} {cn cs : Nat} (h : MrgAt w W bn os ow nl ns An cn As cs) (hb : Below W.heap.size W W1) : MrgAt w W1 bn os ow nl ns An cn As cs :=
  ⟨bthen h.bel hb, blk_below h.bs hb, blk_below h.bw hb, blk_below h.bx hb, h.far, h.own1.below hb, h.own2.below hb, h.ne⟩
def mergeFl (p : Pg) (l : List St) (ch : Bool) (pc : Nat) (was s : St) : Fl :=
  if (mergeL p was.stack s.stack).any (fun t => decide (t.kind = 6)) then ⟨80, l, ch⟩ else ⟨0, l.set pc ⟨true, mergeL p was.locals s.locals, mergeL p was.stack s.stack⟩, ch || !decide (mergeL p was.locals s.locals = was.locals) || !decide (mergeL p was.stack s.stack = was.stack)⟩
/-- The place of a type in a row of the call's own. -/
theorem own_slot {B : Nat} {W : World} {A : Option Addr} {n c : Nat} {l : List Ty} (h : OwnTy B W (.slice A n c) l) (hn : n = l.length) {k : Nat} (hk : k < l.length) : ∃ g, A = some ⟨g, 0, none⟩ ∧ B ≤ g ∧ g < W.heap.size ∧ (∃ cs, W.heap[g]? = some (.cells cs 48 (0, 0))) ∧ SlotAt W ⟨g, 0, none⟩ k := by
  subst hn
  obtain ⟨g, c', cs, hv, hg1, hg2, hg3⟩ := h.form (List.getElem?_eq_getElem hk)
  cases hv
  refine ⟨g, rfl, hg1, blk_lt hg2, ⟨cs, hg2⟩, ⟨⟨cs, hg2⟩, ?_, ?_, fun v => ?_, fun v => ?_⟩⟩ <;> rw [add_zero_off]
  · exact ⟨cs[k * 2]'(by omega), by unfold World.cell?; rw [hg2]; simp⟩
  · unfold World.frozen?; rw [hg2]; simp
  · exact ⟨cs[k * 2 + 1]'(by omega), by
      unfold World.cell?
      rw [heap_set hg2]
      simp [Array.getElem?_setIfInBounds]⟩
  · unfold World.frozen?; rw [heap_set hg2]; simp
abbrev putT (W : World) (ad : Addr) (k : Nat) (q : Ty) : World := (W.setCell (ad.add (k * 2)) (.int .i64 q.kind)).setCell ⟨(ad.add (k * 2)).block, (ad.add (k * 2)).off + 1, none⟩ (.string q.cls)
theorem putT_ne {W : World} {g k j : Nat} {q : Ty} (hj : j ≠ g) : (putT W ⟨g, 0, none⟩ k q).heap[j]? = W.heap[j]? := by
  unfold putT
  rw [add_zero_off, Below.heap_setCell _ _ _ _ hj, Below.heap_setCell _ _ _ _ hj]
theorem putT_cell {W : World} {g k : Nat} {q : Ty} {a : Addr} (ha : a.block ≠ g) : (putT W ⟨g, 0, none⟩ k q).cell? a = W.cell? a := by
  unfold World.cell?
  rw [putT_ne ha]
theorem own_putT {B : Nat} {W : World} {g k : Nat} {q : Ty} {v : Value} {l : List Ty} (h : OwnTy B W v l) (hne : some g ≠ v.ownBlock) : OwnTy B (putT W ⟨g, 0, none⟩ k q) v l := by
  unfold putT
  rw [add_zero_off]
  exact own_setCell (own_setCell h (p := ⟨g, k * 2, none⟩) hne _) (p := ⟨g, k * 2 + 1, none⟩) hne _
theorem ne_ty {W : World} {g j : Nat} {cs a : Array Value} (hg : W.heap[g]? = some (.cells cs 48 (0, 0))) (hj : W.heap[j]? = some (.cells a ST (0, 0))) : j ≠ g := by
  intro e
  rw [e, hg] at hj
  simp only [Option.some.injEq, Obj.cells.injEq] at hj
  exact absurd hj.2.1 (by decide)
theorem MrgAt.put1 {w W : World} {bn : Nat} {os ow : Array Value} {nl ns : List Ty} {An As : Option Addr} {cn cs : Nat} (h : MrgAt w W bn os ow nl ns An cn As cs) {k : Nat} (hk : k < nl.length) (q : Ty) :
    ∃ g, An = some ⟨g, 0, none⟩ ∧ w.heap.size ≤ g ∧ g < W.heap.size ∧ bn ≠ g ∧ w.heap.size + 1 ≠ g ∧ SlotAt W ⟨g, 0, none⟩ k ∧ MrgAt w (putT W ⟨g, 0, none⟩ k q) bn os ow (nl.set k q) ns An cn As cs := by
  obtain ⟨h1, h2, h3, h4, h5, h6, h7, h8⟩ := h
  obtain ⟨g, rfl, hB, hlt, ⟨cg, hg⟩, hs⟩ := own_slot h6 rfl hk
  have n1 := ne_ty hg h2
  have n2 := ne_ty hg h3
  have n3 := ne_ty hg h4
  refine ⟨g, rfl, hB, hlt, n3, n2, hs, ?_, ?_, ?_, ?_, h5, ?_, own_putT h7 (h8 g rfl).symm, by rw [List.length_set]; exact h8⟩
  · unfold putT; rw [add_zero_off]; exact set_low (set_low h1 hB _) hB _
  · rw [putT_ne n1]; exact h2
  · rw [putT_ne n2]; exact h3
  · rw [putT_ne n3, List.length_set]; exact h4
  · have := h6.stored rfl k q
    unfold putT
    rw [add_zero_off, List.length_set]
    exact this
theorem MrgAt.put2 {w W : World} {bn : Nat} {os ow : Array Value} {nl ns : List Ty} {An As : Option Addr} {cn cs : Nat} (h : MrgAt w W bn os ow nl ns An cn As cs) {k : Nat} (hk : k < ns.length) (q : Ty) :
    ∃ g, As = some ⟨g, 0, none⟩ ∧ w.heap.size ≤ g ∧ g < W.heap.size ∧ bn ≠ g ∧ w.heap.size + 1 ≠ g ∧ SlotAt W ⟨g, 0, none⟩ k ∧ MrgAt w (putT W ⟨g, 0, none⟩ k q) bn os ow nl (ns.set k q) An cn As cs := by
  obtain ⟨h1, h2, h3, h4, h5, h6, h7, h8⟩ := h
  obtain ⟨g, rfl, hB, hlt, ⟨cg, hg⟩, hs⟩ := own_slot h7 rfl hk
  have n1 := ne_ty hg h2
  have n2 := ne_ty hg h3
  have n3 := ne_ty hg h4
  refine ⟨g, rfl, hB, hlt, n3, n2, hs, ?_, ?_, ?_, ?_, h5, own_putT h6 (fun e => h8 g e.symm rfl), ?_, by rw [List.length_set]; exact h8⟩
  · unfold putT; rw [add_zero_off]; exact set_low (set_low h1 hB _) hB _
  · rw [putT_ne n1]; exact h2
  · rw [putT_ne n2]; exact h3
  · rw [putT_ne n3, List.length_set]; exact h4
  · have := h7.stored rfl k q
    unfold putT
    rw [add_zero_off, List.length_set]
    exact this
/-- A type of a row that was there. -/
theorem arg_at {w W : World} {A : Option Addr} {c k : Nat} {l : List Ty} {t : Ty} (h : ∃ B, OwnTy B w (.slice A l.length c) l) (hb : Below w.heap.size w W) (ht : l[k]? = some t) :
    ∃ ad : Addr, W.cell? (ad.add (k * 2)) = some (.int .i64 t.kind) ∧ W.cell? ⟨(ad.add (k * 2)).block, (ad.add (k * 2)).off + 1, none⟩ = some (.string t.cls) ∧ A = some ad := by
  obtain ⟨B, h⟩ := h
  obtain ⟨A', c', hv, hc, hr⟩ := (h.below hb).reads
  cases hv
  have CC := cells_ty hr
  have hk := (List.getElem?_eq_some_iff.1 ht).1
  obtain ⟨ad, rfl, had⟩ := CC.2 (by omega)
  have e : l.getD k default = t := by rw [List.getD_eq_getElem?_getD, ht]; rfl
  exact ⟨ad, CC.at0 (j := k) hk (v := .int .i64 t.kind) (by simp only [e]; rfl), CC.at_ (j := k) (i := 1) hk (by decide) (v := .string t.cls) (by simp only [e]; rfl), rfl⟩
theorem any_step {α : Type} (f : α → Bool) {l : List α} {k : Nat} {x : α} (hx : l[k]? = some x) : (l.take (k + 1)).any f = ((l.take k).any f || f x) := by
  rw [List.take_add_one, hx, List.any_append]
  simp
theorem mergeFl_top {p : Pg} {l : List St} {ch : Bool} {pc k : Nat} {was s : St} {q : Ty} (h : (mergeL p was.stack s.stack)[k]? = some q) (hq : q.kind = 6) : mergeFl p l ch pc was s = ⟨80, l, ch⟩ := by
  unfold mergeFl
  rw [if_pos]
  exact List.any_eq_true.2 ⟨q, List.mem_of_getElem? h, decide_eq_true hq⟩
/-- The next state, stored. -/
theorem joins_end {wB w Wx : World} {fb lb pb bn : Nat} {p : Pg} {c : Cl} {m : Mt} {l : List St} {ch : Bool} {os ow : Array Value} {ls ss : List Ty} {An As : Option Addr} {cn cs pc : Nat} (h : FlowAt wB Wx fb lb pb p c m l ch) (hM : MrgAt w Wx bn os ow ls ss An cn As cs)
    (hsz : wB.heap.size ≤ w.heap.size) (hpc : pc < l.length) (q : Bool) {Wy : World} (hy : Wx.setCell ⟨fb, 15, none⟩ (.bool q) = Wy) :
    Wy.cell? ⟨fb, 14, none⟩ = some (.slice (some ⟨lb, 0, none⟩) l.length l.length) ∧
    (Wy.cell? ⟨bn, 0, none⟩ = some (.bool true) ∧ Wy.cell? ⟨bn, 1, none⟩ = some (.slice An ls.length cn) ∧ Wy.cell? ⟨bn, 2, none⟩ = some (.slice As ss.length cs) ∧ Wy.cell? ⟨bn, 3, none⟩ = some (.slice none 0 0)) ∧
    Place4 Wy ⟨lb, 0, none⟩ pc (.bool true) (.slice An ls.length cn) (.slice As ss.length cs) ∧
    FlowAt wB (put4 Wy lb pc (.bool true) (.slice An ls.length cn) (.slice As ss.length cs) (.slice none 0 0)) fb lb pb p c m (l.set pc ⟨true, ls, ss⟩) q ∧
    Below wB.heap.size w (put4 Wy lb pc (.bool true) (.slice An ls.length cn) (.slice As ss.length cs) (.slice none 0 0)) ∧
    Keep2 w (put4 Wy lb pc (.bool true) (.slice An ls.length cn) (.slice As ss.length cs) (.slice none 0 0)) fb lb := by
  subst hy
  have hF := h.chg q
  obtain ⟨c0, c1, c2, c3, c4, m0, m1, m2, m3, m4, m5, m6, m7, h5, _⟩ := h.fcell
  have nb : bn ≠ fb := fun e => by
    have h1 := hM.bx
    rw [e, h5] at h1
    simp only [Option.some.injEq, Obj.cells.injEq] at h1
    exact absurd h1.2.1 (by decide)
  have hbx : (Wx.setCell ⟨fb, 15, none⟩ (.bool q)).heap[bn]? = some (.cells (stV true An ls.length cn As ss.length cs) ST (0, 0)) := by
    rw [Below.heap_setCell _ _ _ _ nb]
    exact hM.bx
  obtain ⟨b0, b1, b2, b3, _⟩ := cells4 hbx
  obtain ⟨_, _, f14, _, _⟩ := hF.reads
  obtain ⟨cs', q1, q2, _⟩ := hF.lcell
  refine ⟨f14, ⟨b0, b1, b2, b3⟩, place4 q1 q2 hpc _ _ _, ?_, ?_, ((Keep2.of_below fb lb hM.bel).chg 15 _).put4 pc _ _ _ _⟩
  · exact hF.put hpc (s := ⟨true, ls, ss⟩) (own_set (hM.own1.low hsz) h5 (by decide)) (own_set (hM.own2.low hsz) h5 (by decide))
  · exact set_low (set_low (set_low (set_low (set_low (hM.bel.mono hsz) h.fle _) h.lle _) h.lle _) h.lle _) h.lle _
theorem drew_low {B : Nat} {w W : World} (h : Below B w W) : Below B w W.drew := ⟨h.os, h.tape, h.output, h.size, h.block⟩
theorem mrg_slot : True := trivial
set_option maxRecDepth 10000 in
set_option maxHeartbeats 1000000 in
theorem joins_merge {wB w : World} {fb lb pb : Nat} {p : Pg} {c : Cl} {m : Mt} {l : List St} {ch : Bool} (h : FlowAt wB w fb lb pb p c m l ch) (pc : Nat) (was : St) (hpc : l[pc]? = some was) (s : St) (AL AS : Option Addr) (cL cS : Nat) (hs : Arg w s AL cL AS cS)
    (hcase : ¬ m.stack < s.stack.length) (hr : was.reached = true) (heq : s.stack.length = was.stack.length) (hloc : s.locals.length ≤ was.locals.length) (hw9 : was.locals.length ≤ 1000) :
    Calls Try.prog 51 #[.pointer (some ⟨fb, 0, none⟩), .int .i64 pc, .agg (stV true AL s.locals.length cL AS s.stack.length cS)] w (JoinsPost wB w fb lb pb p c m (joins p m.stack l ch pc s)) := by
  have HRES : Hid (joins p m.stack l ch pc s = mergeFl p l ch pc was s) := Lib.hid (by
    have hg : l.getD pc default = was := by rw [List.getD_eq_getElem?_getD, hpc]; rfl
    unfold joins mergeFl; simp only [hg]; rw [if_neg hcase, if_neg (by rw [hr]; decide), if_neg (by omega), hr])
  rw [HRES.out]
  obtain ⟨L, S, o1, o2, k0, k1, k2, k3, kf⟩ := h.st hpc
  obtain ⟨A1, d1, rfl⟩ := o1.slice
  obtain ⟨A2, d2, rfl⟩ := o2.slice
  obtain ⟨f0, f11, f14, f15, ff⟩ := h.reads
  obtain ⟨ad, had⟩ : ∃ ad : Addr, ad = ⟨lb, 0, none⟩ := ⟨_, rfl⟩
  have hlt := (List.getElem?_eq_some_iff.1 hpc).1
  have hlt' : (pc : Int) < (l.length : Int) := by omega
  have hp0 : (0 : Int) ≤ (pc : Int) := by omega
  have hfb := h.flt
  have hlb := h.llt
  have hsz := h.bel.size
  have H := Aside0.mk h
  have a0 : w.cell? (ad.add (pc * 4)) = some (.bool was.reached) := by rw [had, add_lit]; exact k0
  have a1 : w.cell? (at4 ad pc 1) = some (.slice A1 was.locals.length d1) := by rw [had, at4_lit]; exact k1
  have a2 : w.cell? (at4 ad pc 2) = some (.slice A2 was.stack.length d2) := by rw [had, at4_lit]; exact k2
  have a3 : w.cell? (at4 ad pc 3) = some (.slice none 0 0) := by rw [had, at4_lit]; exact k3
  rw [← had] at f14
  have hadb : (ad.add (pc * 4)).block < w.heap.size := by rw [had, add_lit]; exact hlb
  have HAD := Lib.hid had
  have HS := Aside0.mk hs
  have O1 := Aside0.mk o1
  have O2 := Aside0.mk o2
  rw [hr] at a0
  have hne' : ((s.stack.length : Int) == (was.stack.length : Int)) = true := by rw [beq_iff_eq]; omega
  have hne2 : ((s.stack.length : Int) != (was.stack.length : Int)) = false := by rw [heq]; simp
  have HEQ := Lib.hid heq
  have HPC := Aside0.mk hpc
  have HR := Lib.hid hr
  obtain ⟨gh, q1, q2⟩ := h.prog.hier
  have HI := Aside0.mk (q2.below h.bel)
  have hgh := pw_cell_below h.bel q1
  have HGD := Aside0.mk h.prog.good
  clear q1 q2 heq hr
  clear h hpc o1 o2 k0 k1 k2 k3 kf had hs
  have hb0 : Below w.heap.size w ((w.alloc (.cells (stV true AL s.locals.length cL AS s.stack.length cS) ST)).alloc (.cells (stV true A1 was.locals.length d1 A2 was.stack.length d2) ST)) := bthen (balloc w _) (balloc _ _)
  go_enter Try.func51, Try.ntmps51
  go_wp2
  go_quiet (fail)
  obtain ⟨W2, hW2⟩ : ∃ W2, World.drewN ((w.alloc (.cells (stV true AL s.locals.length cL AS s.stack.length cS) ST)).alloc (.cells (stV true A1 was.locals.length d1 A2 was.stack.length d2) ST)) nq = W2 := ⟨_, rfl⟩
  have hb2 : Below w.heap.size w W2 := by rw [← hW2]; exact pw_below_drewN hb0 nq
  have hbs : W2.heap[w.heap.size]? = some (.cells (stV true AL s.locals.length cL AS s.stack.length cS) ST (0, 0)) := by rw [← hW2]; exact blk_below (blk_alloc (blk_new w _) _) (pw_below_drewN (Below.refl _ _) nq)
  have hbw : W2.heap[w.heap.size + 1]? = some (.cells (stV true A1 was.locals.length d1 A2 was.stack.length d2) ST (0, 0)) := by rw [← hW2]; exact blk_below (blk_second w _ _) (pw_below_drewN (Below.refl _ _) nq)
  have hs2 : w.heap.size + 2 ≤ W2.heap.size := by rw [← hW2]; simp [World.drewN]
  rw [hW2]
  clear hW2 hb0 a0 a1 a2 a3
  have e0 := pw_cell_below hb2 f0
  have eh := pw_cell_below hb2 hgh
  obtain ⟨bs0, bs1, bs2, bs3, _⟩ := cells4 hbs
  obtain ⟨bw0, bw1, bw2, bw3, _⟩ := cells4 hbw
  have B2 := Aside0.mk hb2
  have BS := Aside0.mk hbs
  have BW := Aside0.mk hbw
  have HS2 := Lib.hid hs2
  clear f0 f11 f14 f15 ff hgh hb2 hbs hbw hs2
  go_wp2_with fail
  refine (hier_any pb gh W2 eh).mono ?_
  rintro e w' ⟨rfl, rfl⟩
  go_wp2_with fail
  have CP := copied_any (B := 0) was (.slice A1 was.locals.length d1) (.slice A2 was.stack.length d2) (.slice none 0 0) W2 ((O1.out.below B2.out).low (Nat.zero_le _)) ((O2.out.below B2.out).low (Nat.zero_le _)) hw9 (by have := HEQ.out; have := HS.out.stk9; omega)
  rw [HR.out] at CP
  refine CP.mono ?_
  clear CP
  rintro e w3 ⟨L1, S1, rfl, h1, h2, h3, hb3⟩
  obtain ⟨An, cn, rfl⟩ := h1.slice
  obtain ⟨As, cs, rfl⟩ := h2.slice
  have hM : Aside0 (MrgAt w (w3.alloc (.cells (stV true An was.locals.length cn As was.stack.length cs) ST)) w3.heap.size (stV true AL s.locals.length cL AS s.stack.length cS) (stV true A1 was.locals.length d1 A2 was.stack.length d2) was.locals was.stack An cn As cs) := ⟨by
    have hle : w.heap.size ≤ W2.heap.size := B2.out.size
    have hb4 : Below w3.heap.size w3 (w3.alloc (.cells (stV true An was.locals.length cn As was.stack.length cs) ST)) := balloc _ _
    exact ⟨bthen (bthen B2.out hb3) hb4, blk_below (blk_below BS.out hb3) hb4, blk_below (blk_below BW.out hb3) hb4, blk_new _ _, by have := hb3.size; have := HS2.out; omega, (h1.low hle).below hb4, (h2.low hle).below hb4, h3⟩⟩
  have B3 := Aside0.mk hb3
  have t0 := pw_cell_below hb3 bs1
  have hw3 : w.heap.size + 1 < w3.heap.size := by have := hb3.size; have := HS2.out; omega
  have hw4 : w.heap.size < w3.heap.size := by omega
  clear h1 h2 h3 hb3 bs0 bs1 bs2 bs3 bw0 bw1 bw2 bw3 e0 eh BS BW HS2
  go_wp2_with fail
  obtain ⟨W4, hW4⟩ : ∃ W4, w3.alloc (.cells (stV true An was.locals.length cn As was.stack.length cs) ST) = W4 := ⟨_, rfl⟩
  rw [hW4] at hM ⊢
  clear hW4 t0 hw3 hw4 B3 hcase
  generalize w3.heap.size = bn at *
  go_loopw [64] (fun s64 wr => ∃ (k : Nat) (An : Option Addr) (cn : Nat) (As : Option Addr) (cs : Nat), k ≤ s.locals.length ∧ s64 = .int .i64 k ∧ Aside0 (MrgAt w wr bn (stV true AL s.locals.length cL AS s.stack.length cS) (stV true A1 was.locals.length d1 A2 was.stack.length d2) (mergeL p was.locals (s.locals.take k)) was.stack An cn As cs)) (fun s64 _ => s.locals.length - (intOf s64).toNat)
  case atStart => exact ⟨0, An, cn, As, cs, Nat.zero_le _, rfl, by simpa [mergeL_nil] using hM⟩
  case round =>
    clear hM
    obtain ⟨k, An, cn, As, cs, hk, rfl, HM⟩ := hrel
    by_cases hlt : k < s.locals.length
    · have hltz : (k : Int) < (s.locals.length : Int) := by omega
      have hkw : k < was.locals.length := by omega
      have hkwz : (k : Int) < (was.locals.length : Int) := by omega
      have hl9 : (was.locals.length : Int) ≤ 1000 := by omega
      have hk0 : (0 : Int) ≤ (k : Int) := by omega
      obtain ⟨t, ht⟩ : ∃ t, s.locals[k]? = some t := ⟨_, List.getElem?_eq_getElem hlt⟩
      obtain ⟨u, hu⟩ : ∃ u, was.locals[k]? = some u := ⟨_, List.getElem?_eq_getElem hkw⟩
      have HST := Lib.hid (mergeL_step p was.locals s.locals k u t hu ht)
      have HAT := Lib.hid (mergeL_at p was.locals s.locals k u t hu ht)
      have HAT2 := Lib.hid (mergeL_at p was.locals (s.locals.take (k + 1)) k u t hu (by rw [List.getElem?_take, if_pos (by omega)]; exact ht))
      have hnl := mergeL_len p was.locals (s.locals.take k)
      obtain ⟨nl, hnl2⟩ : ∃ nl, mergeL p was.locals (s.locals.take k) = nl := ⟨_, rfl⟩
      rw [hnl2] at HM HST hnl
      obtain ⟨al, x0, x1, hal⟩ := arg_at (HS.out.loc) HM.out.bel ht
      obtain ⟨a1, y0, y1, ha1⟩ := arg_at ⟨_, O1.out⟩ HM.out.bel hu
      subst hal ha1
      have n1 := (cells4 HM.out.bx).2.1
      have n2 := (cells4 HM.out.bw).2.1
      rw [hnl] at n1
      obtain ⟨g, rfl, _⟩ := HM.out.put1 (k := k) (by omega) t
      obtain ⟨an, han⟩ : ∃ an : Addr, an = ⟨g, 0, none⟩ := ⟨_, rfl⟩
      rw [← han] at n1
      have HAN := Lib.hid han
      have HNL := Lib.hid hnl
      clear han ht hu hnl hnl2
      have hgw : w.heap.size ≤ g ∧ g < wr.heap.size ∧ bn ≠ g ∧ w.heap.size + 1 ≠ g := by
        obtain ⟨g', e, h1, h2, h3, h4, _⟩ := HM.out.put1 (k := k) (by have := HNL.out; omega) t
        cases e
        exact ⟨h1, h2, h3, h4⟩
      have ha1 : a1.block < w.heap.size := own_lt O1.out a1.block rfl
      go_wp2_with fail
      obtain ⟨W5, hW5⟩ : ∃ W5, wr.alloc (.cells #[.int .i64 t.kind, .string t.cls] 48) = W5 := ⟨_, rfl⟩
      have hb5 : Below wr.heap.size wr W5 := by rw [← hW5]; exact balloc _ _
      have hbx : W5.heap[wr.heap.size]? = some (.cells #[.int .i64 t.kind, .string t.cls] 48 (0, 0)) := by rw [← hW5]; exact blk_new _ _
      rw [hW5]
      have HM5 := Aside0.mk ((HM.out.below hb5).below (below_drew (Below.refl _ W5)))
      have HI5 := Aside0.mk (HI.out.below HM5.out.bel)
      obtain ⟨b0, b1⟩ := Bx.two ⟨hbx⟩
      have e0 : W5.drew.cell? ⟨bn, 1, none⟩ = some (.slice (some an) was.locals.length cn) := pw_cell_below hb5 n1
      have e1 : W5.drew.cell? ⟨w.heap.size + 1, 1, none⟩ = some (.slice (some a1) was.locals.length d1) := pw_cell_below hb5 n2
      have e2 : W5.drew.cell? (a1.add (k * 2)) = some (.int .i64 u.kind) := pw_cell_below hb5 y0
      have e3 : W5.drew.cell? ⟨(a1.add (k * 2)).block, (a1.add (k * 2)).off + 1, none⟩ = some (.string u.cls) := pw_cell_below hb5 y1
      have e4 : W5.drew.cell? ⟨wr.heap.size, 0, none⟩ = some (.int .i64 t.kind) := b0
      have e5 : W5.drew.cell? ⟨wr.heap.size, 1, none⟩ = some (.string t.cls) := b1
      obtain ⟨q, hq⟩ : ∃ q, merge p.h u t = q := ⟨_, rfl⟩
      rw [hq] at HST HAT HAT2
      have MC := Aside0.mk (merge_is (w := W5.drew) HI5.out HGD.out hq)
      have KC : Aside0 (∀ w6, Below W5.drew.heap.size W5.drew w6 → SlotAt w6 an k ∧ MrgAt w (putT w6 an k q) bn (stV true (some al) s.locals.length cL AS s.stack.length cS) (stV true (some a1) was.locals.length d1 A2 was.stack.length d2) (nl.set k q) was.stack (some an) cn As cs ∧ ∀ a v, a.block ≠ g → w6.cell? a = some v → (putT w6 an k q).cell? a = some v) := ⟨fun w6 hb6 => by
        obtain ⟨g', e, _, _, _, _, hs, hm⟩ := (HM5.out.below hb6).put1 (k := k) (by have := HNL.out; omega) q
        cases e
        rw [HAN.out]
        exact ⟨hs, hm, fun a v ha hv => by rw [putT_cell ha]; exact hv⟩⟩
      obtain ⟨g1, g2, g3, g4⟩ := hgw
      have m2 : (a1.add (k * 2)).block ≠ g := by rw [add_block]; omega
      have m4 : wr.heap.size ≠ g := by omega
      clear hW5 hb5 hbx b0 b1 x0 x1 y0 y1 n1 n2 hq
      go_region_held3 (fun w' => w'.cell? ⟨bn, 1, none⟩ = some (.slice (some an) was.locals.length cn) ∧ w'.cell? ⟨w.heap.size + 1, 1, none⟩ = some (.slice (some a1) was.locals.length d1) ∧ w'.cell? (a1.add (k * 2)) = some (.int .i64 u.kind) ∧ w'.cell? ⟨(a1.add (k * 2)).block, (a1.add (k * 2)).off + 1, none⟩ = some (.string u.cls) ∧ w'.cell? ⟨wr.heap.size, 0, none⟩ = some (.int .i64 t.kind) ∧ w'.cell? ⟨wr.heap.size, 1, none⟩ = some (.string t.cls))
        (first | (with_reducible exact ⟨e0, e1, e2, e3, e4, e5⟩) | (with_reducible exact ⟨z0, z1, z2, z3, z4, z5⟩) | (with_reducible exact ⟨kk _ _ g3 z0, kk _ _ g4 z1, kk _ _ m2 z2, kk _ _ m2 z3, kk _ _ m4 z4, kk _ _ m4 z5⟩))
        (first | (go_at_call 76; (with_reducible refine MC.out.mono ?_); rintro e w6 ⟨rfl, hb6⟩; obtain ⟨⟨_, ⟨v0, p0⟩, p1, p2, p3⟩, hf, kk⟩ := KC.out w6 hb6; obtain ⟨v1, p2⟩ := p2 (.int .i64 q.kind); have p3 := p3 (.int .i64 q.kind); have z0 := pw_cell_below hb6 e0; have z1 := pw_cell_below hb6 e1; have z2 := pw_cell_below hb6 e2; have z3 := pw_cell_below hb6 e3; have z4 := pw_cell_below hb6 e4; have z5 := pw_cell_below hb6 e5; have FF := Aside0.mk hf; clear hf hb6))
      all_goals
        obtain ⟨W7, hW7⟩ : ∃ W7, putT w6 an k q = W7 := ⟨_, rfl⟩
        have hW7' : (w6.setCell (an.add (k * 2)) (.int .i64 q.kind)).setCell ⟨(an.add (k * 2)).block, (an.add (k * 2)).off + 1, none⟩ (.string q.cls) = W7 := hW7
        rw [hW7] at FF
        rw [hW7']
        rw [← HST.out] at FF
        clear hW7 hW7' kk p0 p1 p2 p3 z0 z1 z2 z3 z4 z5 e0 e1 e2 e3 e4 e5 m2 m4 g1 g2 g3 g4
        go_wp2
        go_roundw
        case rel => exact ⟨k + 1, _, _, _, _, by omega, by go_num, FF⟩
        case measure => simp [intOf]; omega
    · have hltz : ¬ (k : Int) < (s.locals.length : Int) := by omega
      have hkk : k = s.locals.length := by omega
      rw [hkk, List.take_of_length_le (Nat.le_refl _)] at HM
      obtain ⟨ls, hls⟩ : ∃ ls, mergeL p was.locals s.locals = ls := ⟨_, rfl⟩
      rw [hls] at HM
      have hlsl : ls.length = was.locals.length := by rw [← hls]; exact mergeL_len _ _ _
      have HLS := Lib.hid hls
      have HLSL := Lib.hid hlsl
      have t2 := (cells4 HM.out.bs).2.2.1
      clear hkk hls hlsl hloc hk hlt
      go_wp2_with fail
      clear hltz t2
      go_loopw [85] (fun s85 wr => ∃ (k : Nat) (An : Option Addr) (cn : Nat) (As : Option Addr) (cs : Nat), k ≤ s.stack.length ∧ s85 = .int .i64 k ∧ Aside0 (MrgAt w wr bn (stV true AL s.locals.length cL AS s.stack.length cS) (stV true A1 was.locals.length d1 A2 was.stack.length d2) ls (mergeL p was.stack (s.stack.take k)) An cn As cs) ∧ Aside0 (((mergeL p was.stack s.stack).take k).any (fun t => decide (t.kind = 6)) = false)) (fun s85 _ => s.stack.length - (intOf s85).toNat)
      case atStart => exact ⟨0, An, cn, As, cs, Nat.zero_le _, rfl, by simpa [mergeL_nil] using HM, ⟨by simp⟩⟩
      case round =>
        clear HM
        obtain ⟨k, An, cn, As, cs, hk, rfl, HM, HA⟩ := hrel
        by_cases hlt : k < s.stack.length
        · have hltz : (k : Int) < (s.stack.length : Int) := by omega
          have hkw : k < was.stack.length := by have := HEQ.out; omega
          have hkwz : (k : Int) < (was.stack.length : Int) := by omega
          have hl9 : (was.stack.length : Int) ≤ 1000 := by have := HEQ.out; have := HS.out.stk9; omega
          have hk0 : (0 : Int) ≤ (k : Int) := by omega
          obtain ⟨t, ht⟩ : ∃ t, s.stack[k]? = some t := ⟨_, List.getElem?_eq_getElem hlt⟩
          obtain ⟨u, hu⟩ : ∃ u, was.stack[k]? = some u := ⟨_, List.getElem?_eq_getElem hkw⟩
          have HST := Lib.hid (mergeL_step p was.stack s.stack k u t hu ht)
          have HAT := Lib.hid (mergeL_at p was.stack s.stack k u t hu ht)
          have HAT2 := Lib.hid (mergeL_at p was.stack (s.stack.take (k + 1)) k u t hu (by rw [List.getElem?_take, if_pos (by omega)]; exact ht))
          have hnl := mergeL_len p was.stack (s.stack.take k)
          obtain ⟨nl, hnl2⟩ : ∃ nl, mergeL p was.stack (s.stack.take k) = nl := ⟨_, rfl⟩
          rw [hnl2] at HM HST hnl
          obtain ⟨al, x0, x1, hal⟩ := arg_at (HS.out.stk) HM.out.bel ht
          obtain ⟨a1, y0, y1, ha1⟩ := arg_at ⟨_, O2.out⟩ HM.out.bel hu
          subst hal ha1
          have n1 := (cells4 HM.out.bx).2.2.1
          have n2 := (cells4 HM.out.bw).2.2.1
          rw [hnl] at n1
          obtain ⟨g, rfl, _⟩ := HM.out.put2 (k := k) (by omega) t
          obtain ⟨an, han⟩ : ∃ an : Addr, an = ⟨g, 0, none⟩ := ⟨_, rfl⟩
          rw [← han] at n1
          have HAN := Lib.hid han
          have HNL := Lib.hid hnl
          clear han ht hu hnl hnl2
          have hgw : w.heap.size ≤ g ∧ g < wr.heap.size ∧ bn ≠ g ∧ w.heap.size + 1 ≠ g := by
            obtain ⟨g', e, h1, h2, h3, h4, _⟩ := HM.out.put2 (k := k) (by have := HNL.out; omega) t
            cases e
            exact ⟨h1, h2, h3, h4⟩
          have ha1 : a1.block < w.heap.size := own_lt O2.out a1.block rfl
          go_wp2_with fail
          obtain ⟨W5, hW5⟩ : ∃ W5, wr.alloc (.cells #[.int .i64 t.kind, .string t.cls] 48) = W5 := ⟨_, rfl⟩
          have hb5 : Below wr.heap.size wr W5 := by rw [← hW5]; exact balloc _ _
          have hbx : W5.heap[wr.heap.size]? = some (.cells #[.int .i64 t.kind, .string t.cls] 48 (0, 0)) := by rw [← hW5]; exact blk_new _ _
          rw [hW5]
          have HM5 := Aside0.mk ((HM.out.below hb5).below (below_drew (Below.refl _ W5)))
          have HI5 := Aside0.mk (HI.out.below HM5.out.bel)
          obtain ⟨b0, b1⟩ := Bx.two ⟨hbx⟩
          have e0 : W5.drew.cell? ⟨bn, 2, none⟩ = some (.slice (some an) was.stack.length cs) := pw_cell_below hb5 n1
          have e1 : W5.drew.cell? ⟨w.heap.size + 1, 2, none⟩ = some (.slice (some a1) was.stack.length d2) := pw_cell_below hb5 n2
          have e2 : W5.drew.cell? (a1.add (k * 2)) = some (.int .i64 u.kind) := pw_cell_below hb5 y0
          have e3 : W5.drew.cell? ⟨(a1.add (k * 2)).block, (a1.add (k * 2)).off + 1, none⟩ = some (.string u.cls) := pw_cell_below hb5 y1
          have e4 : W5.drew.cell? ⟨wr.heap.size, 0, none⟩ = some (.int .i64 t.kind) := b0
          have e5 : W5.drew.cell? ⟨wr.heap.size, 1, none⟩ = some (.string t.cls) := b1
          obtain ⟨q, hq⟩ : ∃ q, merge p.h u t = q := ⟨_, rfl⟩
          rw [hq] at HST HAT HAT2
          have MC := Aside0.mk (merge_is (w := W5.drew) HI5.out HGD.out hq)
          have KC : Aside0 (∀ w6, Below W5.drew.heap.size W5.drew w6 → SlotAt w6 an k ∧ MrgAt w (putT w6 an k q) bn (stV true AL s.locals.length cL (some al) s.stack.length cS) (stV true A1 was.locals.length d1 (some a1) was.stack.length d2) ls (nl.set k q) An cn (some an) cs ∧ ∀ a v, a.block ≠ g → w6.cell? a = some v → (putT w6 an k q).cell? a = some v) := ⟨fun w6 hb6 => by
            obtain ⟨g', e, _, _, _, _, hs, hm⟩ := (HM5.out.below hb6).put2 (k := k) (by have := HNL.out; omega) q
            cases e
            rw [HAN.out]
            exact ⟨hs, hm, fun a v ha hv => by rw [putT_cell ha]; exact hv⟩⟩
          obtain ⟨g1, g2, g3, g4⟩ := hgw
          have m2 : (a1.add (k * 2)).block ≠ g := by rw [add_block]; omega
          have m4 : wr.heap.size ≠ g := by omega
          clear hW5 hb5 hbx b0 b1 x0 x1 y0 y1 n1 n2 hq
          go_region_held3 (fun w' => w'.cell? ⟨bn, 2, none⟩ = some (.slice (some an) was.stack.length cs) ∧ w'.cell? ⟨w.heap.size + 1, 2, none⟩ = some (.slice (some a1) was.stack.length d2) ∧ w'.cell? (a1.add (k * 2)) = some (.int .i64 u.kind) ∧ w'.cell? ⟨(a1.add (k * 2)).block, (a1.add (k * 2)).off + 1, none⟩ = some (.string u.cls) ∧ w'.cell? ⟨wr.heap.size, 0, none⟩ = some (.int .i64 t.kind) ∧ w'.cell? ⟨wr.heap.size, 1, none⟩ = some (.string t.cls))
            (first | (with_reducible exact ⟨e0, e1, e2, e3, e4, e5⟩) | (with_reducible exact ⟨z0, z1, z2, z3, z4, z5⟩) | (with_reducible exact ⟨kk _ _ g3 z0, kk _ _ g4 z1, kk _ _ m2 z2, kk _ _ m2 z3, kk _ _ m4 z4, kk _ _ m4 z5⟩))
            (first | (go_at_call 76; (with_reducible refine MC.out.mono ?_); rintro e w6 ⟨rfl, hb6⟩; obtain ⟨⟨_, ⟨v0, p0⟩, p1, p2, p3⟩, hf, kk⟩ := KC.out w6 hb6; obtain ⟨v1, p2⟩ := p2 (.int .i64 q.kind); have p3 := p3 (.int .i64 q.kind); have z0 := pw_cell_below hb6 e0; have z1 := pw_cell_below hb6 e1; have z2 := pw_cell_below hb6 e2; have z3 := pw_cell_below hb6 e3; have z4 := pw_cell_below hb6 e4; have z5 := pw_cell_below hb6 e5; have FF := Aside0.mk hf; clear hf hb6))
          all_goals
            obtain ⟨W7, hW7⟩ : ∃ W7, putT w6 an k q = W7 := ⟨_, rfl⟩
            have hW7' : (w6.setCell (an.add (k * 2)) (.int .i64 q.kind)).setCell ⟨(an.add (k * 2)).block, (an.add (k * 2)).off + 1, none⟩ (.string q.cls) = W7 := hW7
            rw [hW7] at FF
            rw [hW7']
            rw [← HST.out] at FF
            clear hW7 hW7' kk p0 p1 p2 p3 z0 z1 z2 z3 z4 z5 e0 e1 e2 e3 e4 e5 m2 m4 g1 g2 g3 g4

            obtain ⟨an2, j0, _, hj⟩ := arg_at ⟨_, FF.out.own2⟩ (Below.refl _ _) HAT2.out
            cases hj
            have n3 := (cells4 FF.out.bx).2.2.1
            rw [mergeL_len] at n3
            by_cases h6 : q.kind = 6
            · have e6 : (q.kind == 6) = true := by rw [h6]; rfl
              have HR2 := Lib.hid (mergeFl_top (l := l) (ch := ch) (pc := pc) HAT.out h6)
              clear h6
              go_wp2
              go_ret
              rw [HR2.out]
              exact ⟨rfl, H.out.below FF.out.bel, FF.out.bel.mono hsz, Keep2.of_below _ _ FF.out.bel⟩
            · have e6 : (q.kind == 6) = false := by rw [beq_eq_false_iff_ne]; exact h6
              have HA2 : Aside0 (((mergeL p was.stack s.stack).take (k + 1)).any (fun t => decide (t.kind = 6)) = false) := ⟨by rw [any_step _ HAT.out, HA.out]; simp [h6]⟩
              clear h6
              go_wp2
              go_roundw
              case rel => exact ⟨k + 1, _, _, _, _, by omega, by go_num, FF, HA2⟩
              case measure => simp [intOf]; omega
        · have hltz : ¬ (k : Int) < (s.stack.length : Int) := by omega
          have hkk : k = s.stack.length := by omega
          have hss : (mergeL p was.stack s.stack).length = s.stack.length := by rw [mergeL_len]; exact HEQ.out.symm
          rw [hkk, List.take_of_length_le (Nat.le_refl _)] at HM
          rw [hkk, List.take_of_length_le (by omega)] at HA
          obtain ⟨ss, hss2⟩ : ∃ ss, mergeL p was.stack s.stack = ss := ⟨_, rfl⟩
          rw [hss2] at HM HA hss
          have HR2 : Hid (mergeFl p l ch pc was s = ⟨0, l.set pc ⟨true, ls, ss⟩, ch || !decide (ls = was.locals) || !decide (ss = was.stack)⟩) := Lib.hid (by
            unfold mergeFl
            rw [hss2, HLS.out, HA.out]
            rfl)
          have hssl : ss.length = was.stack.length := by rw [hss]; exact HEQ.out
          have HSSL := Lib.hid hssl
          have n1 := (cells4 HM.out.bx).2.1
          have n2 := (cells4 HM.out.bx).2.2.1
          have n3 := (cells4 HM.out.bw).2.1
          have n4 := (cells4 HM.out.bw).2.2.1
          rw [HLSL.out] at n1
          rw [hssl] at n2
          obtain ⟨_, _, hv, _, E1⟩ := HM.out.own1.reads
          cases hv
          obtain ⟨_, _, hv, _, E2⟩ := HM.out.own2.reads
          cases hv
          obtain ⟨_, _, hv, _, E3⟩ := (O1.out.below HM.out.bel).reads
          cases hv
          obtain ⟨_, _, hv, _, E4⟩ := (O2.out.below HM.out.bel).reads
          cases hv
          have E1 := Aside0.mk E1
          have E2 := Aside0.mk E2
          have E3 := Aside0.mk E3
          have E4 := Aside0.mk E4
          have F := Aside0.mk (H.out.below HM.out.bel)
          obtain ⟨_, _, f14, f15, ff⟩ := F.out.reads
          have nfb : fb ≠ lb := H.out.ne
          clear hkk hss hss2 hssl hk hlt
          cases ch with
          | true =>
            have HCH : Hid ((true || !decide (ls = was.locals) || !decide (ss = was.stack)) = true) := Lib.hid (by simp)
            go_wp2_with fail
            obtain ⟨Wy, hy⟩ : ∃ Wy, wr.setCell ⟨fb, 15, none⟩ (.bool true) = Wy := ⟨_, rfl⟩
            obtain ⟨k14, ⟨k0, k1, k2, k3⟩, hp, hf, hb, hk2⟩ := joins_end F.out HM.out hsz hlt true hy
            rw [hy]
            rw [← put4_lit] at hf hb hk2
            rw [← HAD.out] at k14 hp hf hb hk2
            rw [HLSL.out] at k1 hp hf hb hk2
            rw [HSSL.out] at k2 hp hf hb hk2
            obtain ⟨⟨u0, p0⟩, p1, ⟨u1, p2⟩, p3, ⟨u2, p4⟩, p5, ⟨u3, p6⟩, p7⟩ := hp
            have FF := Aside0.mk hf
            have BB := Aside0.mk hb
            have KK := Aside0.mk hk2
            clear hy hf hb hk2
            have Wyd : ∀ a, ({ heap := Wy.heap, tape := Wy.tape, drawn := Wy.drawn + 1, os := Wy.os, output := Wy.output } : World).cell? a = Wy.cell? a := fun _ => rfl
            go_still_tail 7, (by kernel_rfl)
            change wpList _ _ _ _ _ Wy.drew
            clear Wyd
            go_wp2
            go_ret
            rw [HR2.out, HCH.out]
            exact ⟨rfl, FF.out.below (below_drew (Below.refl _ _)), drew_low BB.out, KK.out.drew⟩
          | false =>
            rcases h1 : decide (ls = was.locals) with _ | _
            · have e1 := equalTy_is (c := cn) (d := d1) E1.out E3.out h1
              rw [HLSL.out] at e1
              have e1 := Aside0.mk e1
              have HCH : Hid ((false || !decide (ls = was.locals) || !decide (ss = was.stack)) = true) := Lib.hid (by rw [h1]; rfl)
              clear h1
              go_wp2_with fail
              refine e1.out.mono ?_
              rintro e w5 ⟨rfl, hb5⟩
              have F5 := Aside0.mk (F.out.below hb5)
              have M5 := Aside0.mk (HM.out.below hb5)
              obtain ⟨_, _, f14, f15, ff⟩ := F5.out.reads
              clear n1 n2 n3 n4 hb5
              go_wp2_with fail
              obtain ⟨Wy, hy⟩ : ∃ Wy, w5.setCell ⟨fb, 15, none⟩ (.bool true) = Wy := ⟨_, rfl⟩
              obtain ⟨k14, ⟨k0, k1, k2, k3⟩, hp, hf, hb, hk2⟩ := joins_end F5.out M5.out hsz hlt true hy
              rw [hy]
              rw [← put4_lit] at hf hb hk2
              rw [← HAD.out] at k14 hp hf hb hk2
              rw [HLSL.out] at k1 hp hf hb hk2
              rw [HSSL.out] at k2 hp hf hb hk2
              obtain ⟨⟨u0, p0⟩, p1, ⟨u1, p2⟩, p3, ⟨u2, p4⟩, p5, ⟨u3, p6⟩, p7⟩ := hp
              have FF := Aside0.mk hf
              have BB := Aside0.mk hb
              have KK := Aside0.mk hk2
              clear hy hf hb hk2
              have Wyd : ∀ a, ({ heap := Wy.heap, tape := Wy.tape, drawn := Wy.drawn + 1, os := Wy.os, output := Wy.output } : World).cell? a = Wy.cell? a := fun _ => rfl
              go_still_tail 7, (by kernel_rfl)
              change wpList _ _ _ _ _ Wy.drew
              clear Wyd
              go_wp2
              go_ret
              rw [HR2.out, HCH.out]
              exact ⟨rfl, FF.out.below (below_drew (Below.refl _ _)), drew_low BB.out, KK.out.drew⟩
            · have e1 := equalTy_is (c := cn) (d := d1) E1.out E3.out h1
              rw [HLSL.out] at e1
              have e1 := Aside0.mk e1
              obtain ⟨q2, hq2⟩ : ∃ q2, decide (ss = was.stack) = q2 := ⟨_, rfl⟩
              have HCH : Hid ((false || !decide (ls = was.locals) || !decide (ss = was.stack)) = !q2) := Lib.hid (by rw [h1, hq2]; rfl)
              have HQ2 := Lib.hid hq2
              clear h1 hq2
              go_wp2_with fail
              refine e1.out.mono ?_
              rintro e w5 ⟨rfl, hb5⟩
              have F5 := Aside0.mk (F.out.below hb5)
              have M5 := Aside0.mk (HM.out.below hb5)
              have n2 := pw_cell_below hb5 n2
              have n4 := pw_cell_below hb5 n4
              have e2 := equalTy_is (c := cs) (d := d2) (Kd.C_below E2.out hb5) (Kd.C_below E4.out hb5) HQ2.out
              rw [HSSL.out] at e2
              have e2 := Aside0.mk e2
              clear n1 n3 hb5 f14 f15 ff
              go_wp2_with fail
              refine e2.out.mono ?_
              rintro e w6 ⟨rfl, hb6⟩
              have F6 := Aside0.mk (F5.out.below hb6)
              have M6 := Aside0.mk (M5.out.below hb6)
              obtain ⟨_, _, f14, f15, ff⟩ := F6.out.reads
              clear n2 n4 hb6
              cases q2 with
              | true =>
                go_wp2_with fail
                obtain ⟨Wy, hy⟩ : ∃ Wy, w6.setCell ⟨fb, 15, none⟩ (.bool false) = Wy := ⟨_, rfl⟩
                obtain ⟨k14, ⟨k0, k1, k2, k3⟩, hp, hf, hb, hk2⟩ := joins_end F6.out M6.out hsz hlt false hy
                rw [hy]
                rw [← put4_lit] at hf hb hk2
                rw [← HAD.out] at k14 hp hf hb hk2
                rw [HLSL.out] at k1 hp hf hb hk2
                rw [HSSL.out] at k2 hp hf hb hk2
                obtain ⟨⟨u0, p0⟩, p1, ⟨u1, p2⟩, p3, ⟨u2, p4⟩, p5, ⟨u3, p6⟩, p7⟩ := hp
                have FF := Aside0.mk hf
                have BB := Aside0.mk hb
                have KK := Aside0.mk hk2
                clear hy hf hb hk2
                have Wyd : ∀ a, ({ heap := Wy.heap, tape := Wy.tape, drawn := Wy.drawn + 1, os := Wy.os, output := Wy.output } : World).cell? a = Wy.cell? a := fun _ => rfl
                go_still_tail 7, (by kernel_rfl)
                change wpList _ _ _ _ _ Wy.drew
                clear Wyd
                go_wp2
                go_ret
                rw [HR2.out, HCH.out]
                exact ⟨rfl, FF.out.below (below_drew (Below.refl _ _)), drew_low BB.out, KK.out.drew⟩
              | false =>
                go_wp2_with fail
                obtain ⟨Wy, hy⟩ : ∃ Wy, w6.setCell ⟨fb, 15, none⟩ (.bool true) = Wy := ⟨_, rfl⟩
                obtain ⟨k14, ⟨k0, k1, k2, k3⟩, hp, hf, hb, hk2⟩ := joins_end F6.out M6.out hsz hlt true hy
                rw [hy]
                rw [← put4_lit] at hf hb hk2
                rw [← HAD.out] at k14 hp hf hb hk2
                rw [HLSL.out] at k1 hp hf hb hk2
                rw [HSSL.out] at k2 hp hf hb hk2
                obtain ⟨⟨u0, p0⟩, p1, ⟨u1, p2⟩, p3, ⟨u2, p4⟩, p5, ⟨u3, p6⟩, p7⟩ := hp
                have FF := Aside0.mk hf
                have BB := Aside0.mk hb
                have KK := Aside0.mk hk2
                clear hy hf hb hk2
                have Wyd : ∀ a, ({ heap := Wy.heap, tape := Wy.tape, drawn := Wy.drawn + 1, os := Wy.os, output := Wy.output } : World).cell? a = Wy.cell? a := fun _ => rfl
                go_still_tail 7, (by kernel_rfl)
                change wpList _ _ _ _ _ Wy.drew
                clear Wyd
                go_wp2
                go_ret
                rw [HR2.out, HCH.out]
                exact ⟨rfl, FF.out.below (below_drew (Below.refl _ _)), drew_low BB.out, KK.out.drew⟩
end Go.Proofs.Ytpdjkclacbgneaa
