/- verify's flow as it lies in memory. -/
import Derived.Test.YtpdjkclacbgneaaVEnt
set_option linter.unusedVariables false
set_option linter.unusedSimpArgs false
namespace Go.Proofs.Ytpdjkclacbgneaa
open Go.RowKit Go.Shelf Go.Proofs.YtpdjkclacbgneaaW.PrintWords Go.Proofs.Ytpdjkclacbgneaa.Pl

abbrev FT : TypeId := 120
abbrev ST : TypeId := 82
def flowCs (pb lb n : Nat) (ch : Bool) (c0 c1 c2 c3 c4 m0 m1 m2 m3 m4 m5 m6 m7 : Value) : Array Value :=
  #[.pointer (some ⟨pb, 0, none⟩), c0, c1, c2, c3, c4, m0, m1, m2, m3, m4, m5, m6, m7, .slice (some ⟨lb, 0, none⟩) n n, .bool ch]
/-- The cells of a state. -/
structure StIs (B : Nat) (w : World) (cs : Array Value) (i : Nat) (s : St) : Prop where
  out : ∃ L S, cs[i * 4]? = some (.bool s.reached) ∧ cs[i * 4 + 1]? = some L ∧ cs[i * 4 + 2]? = some S ∧ cs[i * 4 + 3]? = some (.slice none 0 0) ∧ OwnTy B w L s.locals ∧ OwnTy B w S s.stack
/-- The flow that the block fb is, its states in the block lb. -/
structure FlowAt (wB w : World) (fb lb pb : Nat) (p : Pg) (c : Cl) (m : Mt) (l : List St) (ch : Bool) : Prop where
  bel : Below wB.heap.size wB w
  fle : wB.heap.size ≤ fb
  lle : wB.heap.size ≤ lb
  prog : ProgIs wB pb p
  fcell : ∃ c0 c1 c2 c3 c4 m0 m1 m2 m3 m4 m5 m6 m7, w.heap[fb]? = some (.cells (flowCs pb lb l.length ch c0 c1 c2 c3 c4 m0 m1 m2 m3 m4 m5 m6 m7) FT (0, 0)) ∧ clK.K wB c [c0, c1, c2, c3, c4] ∧ mtK.K wB m [m0, m1, m2, m3, m4, m5, m6, m7]
  lcell : ∃ cs, w.heap[lb]? = some (.cells cs ST (0, 0)) ∧ cs.size = l.length * 4 ∧ ∀ i s, l[i]? = some s → StIs wB.heap.size w cs i s
section
variable {wB w : World} {fb lb pb : Nat} {p : Pg} {c : Cl} {m : Mt} {l : List St} {ch : Bool}
theorem FlowAt.ne (h : FlowAt wB w fb lb pb p c m l ch) : fb ≠ lb := by
  intro e
  obtain ⟨_, _, _, _, _, _, _, _, _, _, _, _, _, h1, _⟩ := h.fcell
  obtain ⟨cs, h2, _⟩ := h.lcell
  rw [e, h2] at h1
  simp only [Option.some.injEq, Obj.cells.injEq] at h1
  exact absurd h1.2.1 (by decide)
theorem FlowAt.flt (h : FlowAt wB w fb lb pb p c m l ch) : fb < w.heap.size := by
  obtain ⟨_, _, _, _, _, _, _, _, _, _, _, _, _, h1, _⟩ := h.fcell
  exact blk_lt h1
theorem FlowAt.llt (h : FlowAt wB w fb lb pb p c m l ch) : lb < w.heap.size := by
  obtain ⟨cs, h2, _⟩ := h.lcell
  exact blk_lt h2
theorem StIs.below {B : Nat} {w w1 : World} {cs : Array Value} {i : Nat} {s : St} (h : StIs B w cs i s) (hb : Below w.heap.size w w1) : StIs B w1 cs i s := by
  obtain ⟨L, S, h1, h2, h3, h4, h5, h6⟩ := h.out
  exact ⟨L, S, h1, h2, h3, h4, h5.below hb, h6.below hb⟩
theorem FlowAt.below (h : FlowAt wB w fb lb pb p c m l ch) {w1 : World} (hb : Below w.heap.size w w1) : FlowAt wB w1 fb lb pb p c m l ch := by
  obtain ⟨h1, h2, h3, h4, ⟨c0, c1, c2, c3, c4, m0, m1, m2, m3, m4, m5, m6, m7, h5, h6, h7⟩, cs, h8, h9, h10⟩ := h
  exact ⟨h1.trans (hb.mono h1.size), h2, h3, h4, ⟨c0, c1, c2, c3, c4, m0, m1, m2, m3, m4, m5, m6, m7, blk_below h5 hb, h6, h7⟩, cs, blk_below h8 hb, h9, fun i s hi => (h10 i s hi).below hb⟩
/-- What the walk reads of a flow. -/
theorem FlowAt.reads (h : FlowAt wB w fb lb pb p c m l ch) :
    w.cell? ⟨fb, 0, none⟩ = some (.pointer (some ⟨pb, 0, none⟩)) ∧ w.cell? ⟨fb, 11, none⟩ = some (.int .i64 m.stack) ∧ w.cell? ⟨fb, 14, none⟩ = some (.slice (some ⟨lb, 0, none⟩) l.length l.length) ∧ w.cell? ⟨fb, 15, none⟩ = some (.bool ch) ∧ w.frozen? ⟨fb, 15, none⟩ = false := by
  obtain ⟨_, _, _, _, ⟨c0, c1, c2, c3, c4, m0, m1, m2, m3, m4, m5, m6, m7, h5, h6, h7⟩, _⟩ := h
  obtain ⟨A0, d0, A1, d1, A2, d2, he, _⟩ := mtK_open h7
  cases he
  refine ⟨Bx.cell ⟨h5⟩ (j := 0) rfl, Bx.cell ⟨h5⟩ (j := 11) rfl, Bx.cell ⟨h5⟩ (j := 14) rfl, Bx.cell ⟨h5⟩ (j := 15) rfl, ?_⟩
  unfold World.frozen?; rw [h5]; simp
theorem FlowAt.code (h : FlowAt wB w fb lb pb p c m l ch) : ∃ A cap A' cap', w.cell? ⟨fb, 12, none⟩ = some (.slice A m.code.length cap) ∧ inK.C w A m.code.length m.code ∧ w.cell? ⟨fb, 13, none⟩ = some (.slice A' m.handlers.length cap') := by
  obtain ⟨h1, _, _, _, ⟨c0, c1, c2, c3, c4, m0, m1, m2, m3, m4, m5, m6, m7, h5, h6, h7⟩, _⟩ := h
  obtain ⟨A0, d0, A1, d1, A2, d2, he, _, _, hc, _⟩ := mtK_open h7
  cases he
  exact ⟨A1, d1, A2, d2, Bx.cell ⟨h5⟩ (j := 12) rfl, Kd.C_below hc h1, Bx.cell ⟨h5⟩ (j := 13) rfl⟩
theorem FlowAt.env (h : FlowAt wB w fb lb pb p c m l ch) : FlowEnv w.heap.size w fb pb p c m := by
  have hh := h
  obtain ⟨h1, h2, h3, h4, ⟨c0, c1, c2, c3, c4, m0, m1, m2, m3, m4, m5, m6, m7, h5, h6, h7⟩, cs, h8, h9, h10⟩ := h
  obtain ⟨A0, d0, A1, d1, A2, d2, he, _⟩ := mtK_open h7
  cases he
  obtain ⟨B0, e0, B1, e1, B2, e2, hc, _, hp, _⟩ := clK_open h6
  cases hc
  refine ⟨⟨fun W hW => h4.below (bthen h1 hW), fun W hW => pw_cell_below hW hh.reads.1⟩, fun W hW => ⟨pw_cell_below hW (Bx.cell ⟨h5⟩ (j := 8) rfl), pw_cell_below hW (Bx.cell ⟨h5⟩ (j := 9) rfl)⟩, fun W hW => ⟨B0, e0, pw_cell_below hW (Bx.cell ⟨h5⟩ (j := 3) rfl), Kd.C_below hp (bthen h1 hW)⟩⟩
/-- A state, as it lies. -/
theorem FlowAt.st (h : FlowAt wB w fb lb pb p c m l ch) {i : Nat} {s : St} (hi : l[i]? = some s) : ∃ L S, OwnTy wB.heap.size w L s.locals ∧ OwnTy wB.heap.size w S s.stack ∧
    w.cell? ⟨lb, i * 4, none⟩ = some (.bool s.reached) ∧ w.cell? ⟨lb, i * 4 + 1, none⟩ = some L ∧ w.cell? ⟨lb, i * 4 + 2, none⟩ = some S ∧ w.cell? ⟨lb, i * 4 + 3, none⟩ = some (.slice none 0 0) ∧ ∀ j, w.frozen? ⟨lb, j, none⟩ = false := by
  obtain ⟨cs, h8, h9, h10⟩ := h.lcell
  obtain ⟨L, S, h1, h2, h3, h4, h5, h6⟩ := (h10 i s hi).out
  exact ⟨L, S, h5, h6, Bx.cell ⟨h8⟩ h1, Bx.cell ⟨h8⟩ h2, Bx.cell ⟨h8⟩ h3, Bx.cell ⟨h8⟩ h4, fun j => by unfold World.frozen?; rw [h8]; simp⟩
end
/-- Another state, at its place. -/
theorem set4 {cs : Array Value} {n i : Nat} {v0 v1 v2 v3 : Value} (hs : cs.size = n * 4) (hi : i < n) :
    let cs' := (((cs.setIfInBounds (i * 4) v0).setIfInBounds (i * 4 + 1) v1).setIfInBounds (i * 4 + 2) v2).setIfInBounds (i * 4 + 3) v3
    cs'.size = n * 4 ∧ cs'[i * 4]? = some v0 ∧ cs'[i * 4 + 1]? = some v1 ∧ cs'[i * 4 + 2]? = some v2 ∧ cs'[i * 4 + 3]? = some v3 ∧ ∀ j k, j ≠ i → k < 4 → cs'[j * 4 + k]? = cs[j * 4 + k]? := by
  refine ⟨by simp [hs], ?_, ?_, ?_, ?_, fun j k hj hk => ?_⟩
  · simp [Array.getElem?_setIfInBounds, hs]; omega
  · simp [Array.getElem?_setIfInBounds, hs]; omega
  · simp [Array.getElem?_setIfInBounds, hs]; omega
  · simp [Array.getElem?_setIfInBounds, hs]; omega
  · have e0 : i * 4 ≠ j * 4 + k := by omega
    have e1 : i * 4 + 1 ≠ j * 4 + k := by omega
    have e2 : i * 4 + 2 ≠ j * 4 + k := by omega
    have e3 : i * 4 + 3 ≠ j * 4 + k := by omega
    simp [Array.getElem?_setIfInBounds, e0, e1, e2, e3]
abbrev put4 (w : World) (lb i : Nat) (v0 v1 v2 v3 : Value) : World :=
  (((w.setCell ⟨lb, i * 4, none⟩ v0).setCell ⟨lb, i * 4 + 1, none⟩ v1).setCell ⟨lb, i * 4 + 2, none⟩ v2).setCell ⟨lb, i * 4 + 3, none⟩ v3
theorem heap_put4 {w : World} {lb i : Nat} {v0 v1 v2 v3 : Value} {cs : Array Value} {t : TypeId} (h : w.heap[lb]? = some (.cells cs t (0, 0))) :
    (put4 w lb i v0 v1 v2 v3).heap[lb]? = some (.cells ((((cs.setIfInBounds (i * 4) v0).setIfInBounds (i * 4 + 1) v1).setIfInBounds (i * 4 + 2) v2).setIfInBounds (i * 4 + 3) v3) t (0, 0)) :=
  heap_set (heap_set (heap_set (heap_set h)))
theorem heap_put4_ne {w : World} {lb i : Nat} {v0 v1 v2 v3 : Value} {k : Nat} (h : k ≠ lb) : (put4 w lb i v0 v1 v2 v3).heap[k]? = w.heap[k]? := by
  unfold put4
  rw [Below.heap_setCell _ _ _ _ h, Below.heap_setCell _ _ _ _ h, Below.heap_setCell _ _ _ _ h, Below.heap_setCell _ _ _ _ h]
theorem own_put4 {B : Nat} {w : World} {lb i : Nat} {v0 v1 v2 v3 v : Value} {cs : Array Value} {l : List Ty} (h : OwnTy B w v l) (hl : w.heap[lb]? = some (.cells cs ST (0, 0))) : OwnTy B (put4 w lb i v0 v1 v2 v3) v l :=
  own_set (own_set (own_set (own_set h hl (by decide)) (heap_set hl) (by decide)) (heap_set (heap_set hl)) (by decide)) (heap_set (heap_set (heap_set hl))) (by decide)
theorem FlowAt.put {wB w : World} {fb lb pb : Nat} {p : Pg} {c : Cl} {m : Mt} {l : List St} {ch : Bool} (h : FlowAt wB w fb lb pb p c m l ch) {i : Nat} (hi : i < l.length) {s : St} {L S : Value} (hL : OwnTy wB.heap.size w L s.locals) (hS : OwnTy wB.heap.size w S s.stack) :
    FlowAt wB (put4 w lb i (.bool s.reached) L S (.slice none 0 0)) fb lb pb p c m (l.set i s) ch := by
  have hne := h.ne
  obtain ⟨h1, h2, h3, h4, ⟨c0, c1, c2, c3, c4, m0, m1, m2, m3, m4, m5, m6, m7, h5, h6, h7⟩, cs, h8, h9, h10⟩ := h
  refine ⟨set_low (set_low (set_low (set_low h1 h3 _) h3 _) h3 _) h3 _, h2, h3, h4, ⟨c0, c1, c2, c3, c4, m0, m1, m2, m3, m4, m5, m6, m7, by rw [heap_put4_ne hne, List.length_set]; exact h5, h6, h7⟩, _, heap_put4 h8, ?_, fun j t hj => ?_⟩
  · rw [List.length_set]; exact (set4 h9 hi).1
  · obtain ⟨_, k0, k1, k2, k3, kk⟩ := set4 (v0 := .bool s.reached) (v1 := L) (v2 := S) (v3 := .slice none 0 0) h9 hi
    by_cases hji : j = i
    · subst hji
      rw [List.getElem?_set_self hi] at hj
      cases hj
      exact ⟨L, S, k0, k1, k2, k3, own_put4 hL h8, own_put4 hS h8⟩
    · rw [List.getElem?_set_ne (fun e => hji e.symm)] at hj
      obtain ⟨L', S', a0, a1, a2, a3, a4, a5⟩ := (h10 j t hj).out
      exact ⟨L', S', by rw [← a0]; exact kk j 0 hji (by decide), by rw [← a1]; exact kk j 1 hji (by decide), by rw [← a2]; exact kk j 2 hji (by decide), by rw [← a3]; exact kk j 3 hji (by decide), own_put4 a4 h8, own_put4 a5 h8⟩
theorem FlowAt.chg {wB w : World} {fb lb pb : Nat} {p : Pg} {c : Cl} {m : Mt} {l : List St} {ch : Bool} (h : FlowAt wB w fb lb pb p c m l ch) (q : Bool) : FlowAt wB (w.setCell ⟨fb, 15, none⟩ (.bool q)) fb lb pb p c m l q := by
  have hne := h.ne
  obtain ⟨h1, h2, h3, h4, ⟨c0, c1, c2, c3, c4, m0, m1, m2, m3, m4, m5, m6, m7, h5, h6, h7⟩, cs, h8, h9, h10⟩ := h
  refine ⟨set_low h1 h2 _, h2, h3, h4, ⟨c0, c1, c2, c3, c4, m0, m1, m2, m3, m4, m5, m6, m7, by rw [heap_set h5]; rfl, h6, h7⟩, cs, by rw [Below.heap_setCell _ _ _ _ hne.symm]; exact h8, h9, fun j t hj => ?_⟩
  obtain ⟨L', S', a0, a1, a2, a3, a4, a5⟩ := (h10 j t hj).out
  exact ⟨L', S', a0, a1, a2, a3, own_set a4 h5 (by decide), own_set a5 h5 (by decide)⟩
/-! ### a place of a row of states, as the walk spells it -/
abbrev at4 (ad : Addr) (i k : Nat) : Addr := ⟨(ad.add (i * 4)).block, (ad.add (i * 4)).off + k, none⟩
theorem add_lit (lb i : Nat) : (⟨lb, 0, none⟩ : Addr).add (i * 4) = ⟨lb, i * 4, none⟩ := add_zero_off lb (i * 4)
theorem at4_lit (lb i k : Nat) : at4 ⟨lb, 0, none⟩ i k = ⟨lb, i * 4 + k, none⟩ := by unfold at4; rw [add_lit]
structure Place4 (W : World) (ad : Addr) (i : Nat) (v0 v1 v2 : Value) : Prop where
  c0 : ∃ u, W.cell? (ad.add (i * 4)) = some u
  f0 : W.frozen? (ad.add (i * 4)) = false
  c1 : ∃ u, (W.setCell (ad.add (i * 4)) v0).cell? (at4 ad i 1) = some u
  f1 : (W.setCell (ad.add (i * 4)) v0).frozen? (at4 ad i 1) = false
  c2 : ∃ u, ((W.setCell (ad.add (i * 4)) v0).setCell (at4 ad i 1) v1).cell? (at4 ad i 2) = some u
  f2 : ((W.setCell (ad.add (i * 4)) v0).setCell (at4 ad i 1) v1).frozen? (at4 ad i 2) = false
  c3 : ∃ u, (((W.setCell (ad.add (i * 4)) v0).setCell (at4 ad i 1) v1).setCell (at4 ad i 2) v2).cell? (at4 ad i 3) = some u
  f3 : (((W.setCell (ad.add (i * 4)) v0).setCell (at4 ad i 1) v1).setCell (at4 ad i 2) v2).frozen? (at4 ad i 3) = false
theorem place4 {W : World} {lb i n : Nat} {cs : Array Value} {t : TypeId} (h : W.heap[lb]? = some (.cells cs t (0, 0))) (hs : cs.size = n * 4) (hi : i < n) (v0 v1 v2 : Value) : Place4 W ⟨lb, 0, none⟩ i v0 v1 v2 := by
  have fz : ∀ {W : World} {cs : Array Value}, W.heap[lb]? = some (.cells cs t (0, 0)) → ∀ j, W.frozen? ⟨lb, j, none⟩ = false := fun h j => by unfold World.frozen?; rw [h]; simp
  have cl : ∀ {W : World} {cs : Array Value}, W.heap[lb]? = some (.cells cs t (0, 0)) → ∀ j, j < cs.size → ∃ u, W.cell? ⟨lb, j, none⟩ = some u := fun {W cs} h j hj => ⟨cs[j], by unfold World.cell?; rw [h]; simp [hj]⟩
  refine ⟨?_, ?_, ?_, ?_, ?_, ?_, ?_, ?_⟩ <;> (try rw [at4_lit]) <;> (try rw [at4_lit]) <;> (try rw [at4_lit]) <;> rw [add_lit]
  · exact cl h _ (by omega)
  · exact fz h _
  · exact cl (heap_set h) _ (by simp; omega)
  · exact fz (heap_set h) _
  · exact cl (heap_set (heap_set h)) _ (by simp; omega)
  · exact fz (heap_set (heap_set h)) _
  · exact cl (heap_set (heap_set (heap_set h))) _ (by simp; omega)
  · exact fz (heap_set (heap_set (heap_set h))) _
theorem put4_lit (W : World) (lb i : Nat) (v0 v1 v2 v3 : Value) : (((W.setCell ((⟨lb, 0, none⟩ : Addr).add (i * 4)) v0).setCell (at4 ⟨lb, 0, none⟩ i 1) v1).setCell (at4 ⟨lb, 0, none⟩ i 2) v2).setCell (at4 ⟨lb, 0, none⟩ i 3) v3 = put4 W lb i v0 v1 v2 v3 := by
  rw [at4_lit, at4_lit, at4_lit, add_lit]
theorem cell_put4 {W : World} {lb i : Nat} {v0 v1 v2 v3 : Value} {a : Addr} (ha : a.block ≠ lb) : (put4 W lb i v0 v1 v2 v3).cell? a = W.cell? a := by
  unfold World.cell?
  rw [heap_put4_ne ha]
end Go.Proofs.Ytpdjkclacbgneaa
