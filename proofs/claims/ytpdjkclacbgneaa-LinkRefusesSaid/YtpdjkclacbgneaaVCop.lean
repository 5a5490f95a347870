/- verify's copied. -/
import Derived.Test.YtpdjkclacbgneaaVCln
set_option linter.unusedVariables false
set_option linter.unusedSimpArgs false
namespace Go.Proofs.Ytpdjkclacbgneaa
open Go.RowKit Go.Shelf Go.Proofs.YtpdjkclacbgneaaW.PrintWords Go.Proofs.Ytpdjkclacbgneaa.Pl

theorem cells4 {w : World} {g : Nat} {a b c d : Value} {t : TypeId} (h : w.heap[g]? = some (.cells #[a, b, c, d] t (0, 0))) : w.cell? ⟨g, 0, none⟩ = some a ∧ w.cell? ⟨g, 1, none⟩ = some b ∧ w.cell? ⟨g, 2, none⟩ = some c ∧ w.cell? ⟨g, 3, none⟩ = some d ∧ ∀ j, w.frozen? ⟨g, j, none⟩ = false :=
  ⟨Bx.cell ⟨h⟩ (j := 0) rfl, Bx.cell ⟨h⟩ (j := 1) rfl, Bx.cell ⟨h⟩ (j := 2) rfl, Bx.cell ⟨h⟩ (j := 3) rfl, fun j => by unfold World.frozen?; rw [h]; simp⟩
theorem OwnTy.below' {B : Nat} {w w1 w2 : World} {v : Value} {l : List Ty} (h : OwnTy B w1 v l) (_ : Below w.heap.size w w1) (hb : Below w1.heap.size w1 w2) : OwnTy B w2 v l := h.below hb
theorem chain4 {W : World} {g : Nat} {v0 v1 v2 v3 : Value} {a : Addr} {u : Value} (ha : a.block ≠ g) (h : W.cell? a = some u) : ((((W.setCell ⟨g, 0, none⟩ v0).setCell ⟨g, 1, none⟩ v1).setCell ⟨g, 2, none⟩ v2).setCell ⟨g, 3, none⟩ v3).cell? a = some u := by
  rw [cell_set ha, cell_set ha, cell_set ha, cell_set ha, h]
/-- Four cells stored into a block of the call's own. -/
theorem chain4_own {B g : Nat} {w W : World} {a0 a1 a2 a3 v0 v1 v2 v3 : Value} {t : TypeId} (hb : Below B w W) (hl : B ≤ g) (h : W.heap[g]? = some (.cells #[a0, a1, a2, a3] t (0, 0))) :
    Below B w ((((W.setCell ⟨g, 0, none⟩ v0).setCell ⟨g, 1, none⟩ v1).setCell ⟨g, 2, none⟩ v2).setCell ⟨g, 3, none⟩ v3) ∧
    ((((W.setCell ⟨g, 0, none⟩ v0).setCell ⟨g, 1, none⟩ v1).setCell ⟨g, 2, none⟩ v2).setCell ⟨g, 3, none⟩ v3).heap[g]? = some (.cells #[v0, v1, v2, v3] t (0, 0)) :=
  ⟨set_low (set_low (set_low (set_low hb hl _) hl _) hl _) hl _, by simp [World.setCell, Array.getElem?_modify, h]⟩
theorem own_chain4 {B g : Nat} {W : World} {a0 a1 a2 a3 v0 v1 v2 v3 v : Value} {t : TypeId} {l : List Ty} (h : OwnTy B W v l) (hg : W.heap[g]? = some (.cells #[a0, a1, a2, a3] t (0, 0))) (ht : 48 ≠ t) :
    OwnTy B ((((W.setCell ⟨g, 0, none⟩ v0).setCell ⟨g, 1, none⟩ v1).setCell ⟨g, 2, none⟩ v2).setCell ⟨g, 3, none⟩ v3) v l :=
  own_set (own_set (own_set (own_set h hg ht) (heap_set hg) ht) (heap_set (heap_set hg)) ht) (heap_set (heap_set (heap_set hg))) ht
theorem ne_apart {a b : Value} {n : Nat} (h1 : ∀ k, a.ownBlock = some k → k < n) (h2 : ∀ k, b.ownBlock = some k → n ≤ k) : NeRow a b := fun j hj e => by
  have := h1 j hj
  have := h2 j e
  omega
set_option maxRecDepth 10000 in
set_option maxHeartbeats 1000000 in
theorem copied_any {B : Nat} (s : St) (L S K : Value) (w : World) (hL : OwnTy B w L s.locals) (hS : OwnTy B w S s.stack) (h1 : s.locals.length ≤ 1000) (h2 : s.stack.length ≤ 1000) :
    Calls Try.prog 75 #[.agg #[.bool s.reached, L, S, K]] w fun e w' => ∃ L1 S1, e = .returned (.agg #[.bool s.reached, L1, S1, .slice none 0 0]) ∧ OwnTy w.heap.size w' L1 s.locals ∧ OwnTy w.heap.size w' S1 s.stack ∧ NeRow L1 S1 ∧ Below w.heap.size w w' := by
  obtain ⟨AL, cL, rfl⟩ := hL.slice
  obtain ⟨AS, cS, rfl⟩ := hS.slice
  obtain ⟨W0, hW0⟩ : ∃ W0, (w.alloc (.cells #[.bool s.reached, .slice AL s.locals.length cL, .slice AS s.stack.length cS, K] 82)).alloc (.cells #[.bool false, .slice none 0 0, .slice none 0 0, .slice none 0 0] 82) = W0 := ⟨_, rfl⟩
  have hb0 : Below w.heap.size w W0 := by rw [← hW0]; exact bthen (balloc _ _) (balloc _ _)
  have hz : W0.heap[w.heap.size]? = some (.cells #[.bool s.reached, .slice AL s.locals.length cL, .slice AS s.stack.length cS, K] 82 (0, 0)) := by rw [← hW0]; exact blk_alloc (blk_new w _) _
  have hg : W0.heap[w.heap.size + 1]? = some (.cells #[.bool false, .slice none 0 0, .slice none 0 0, .slice none 0 0] 82 (0, 0)) := by rw [← hW0]; exact blk_second w _ _
  obtain ⟨z0, z1, z2, z3, _⟩ := cells4 hz
  have z0d : W0.drew.cell? ⟨w.heap.size, 0, none⟩ = some (.bool s.reached) := z0
  have z1d : W0.drew.cell? ⟨w.heap.size, 1, none⟩ = some (.slice AL s.locals.length cL) := z1
  have z2d : W0.drew.cell? ⟨w.heap.size, 2, none⟩ = some (.slice AS s.stack.length cS) := z2
  have HL := Aside0.mk ((hL.below hb0).below (below_drew (Below.refl _ W0)))
  have HS := Aside0.mk ((hS.below hb0).below (below_drew (Below.refl _ W0)))
  have HB0 := Aside0.mk (below_drew hb0)
  have HG := Aside0.mk hg
  have H1 := Lib.hid h1
  have H2 := Lib.hid h2
  have hs0 : Hid (w.heap.size ≤ W0.drew.heap.size) := Lib.hid hb0.size
  clear hL hS hb0 hz hg h1 h2
  go_enter Try.func75, Try.ntmps75
  go_wp2_with fail
  clear hW0
  go_region_held3 (fun w' => w'.cell? ⟨w.heap.size, 0, none⟩ = some (.bool s.reached) ∧ w'.cell? ⟨w.heap.size, 1, none⟩ = some (.slice AL s.locals.length cL) ∧ w'.cell? ⟨w.heap.size, 2, none⟩ = some (.slice AS s.stack.length cS)) (first | (with_reducible exact ⟨z0d, z1d, z2d⟩) | (with_reducible exact ⟨y0, y1, y2⟩) | (with_reducible exact ⟨x0, x1, x2⟩) | exact ⟨chain4 (by simp) x0, chain4 (by simp) x1, chain4 (by simp) x2⟩) (first
    | (go_at_call 103; (with_reducible refine (clone_any (.slice AL s.locals.length cL) s.locals W0.drew HL.out H1.out).mono ?_); rintro e w1 ⟨v1, rfl, hv1, hb1⟩; have y0 := pw_cell_below hb1 z0d; have y1 := pw_cell_below hb1 z1d; have y2 := pw_cell_below hb1 z2d; obtain ⟨A1, c1, rfl⟩ := hv1.slice; have V1 := Aside0.mk hv1; have B1 := Aside0.mk hb1; clear hv1 hb1)
    | (go_at_call 103; (with_reducible refine (clone_any (.slice AS s.stack.length cS) s.stack w1 (HS.out.below B1.out) H2.out).mono ?_); rintro e w2 ⟨v2, rfl, hv2, hb2⟩; have x0 := pw_cell_below hb2 y0; have x1 := pw_cell_below hb2 y1; have x2 := pw_cell_below hb2 y2; obtain ⟨A2, c2, rfl⟩ := hv2.slice; have V2 := Aside0.mk hv2; have B2 := Aside0.mk hb2; have G2 := Aside0.mk (blk_below (blk_below (blk_drew HG.out) B1.out) hb2); obtain ⟨g0, g1, g2, g3, gf⟩ := cells4 G2.out; clear hv2 hb2))
  all_goals
    go_wp2
    obtain ⟨k1, k2⟩ := chain4_own (v0 := .bool s.reached) (v1 := .slice A1 s.locals.length c1) (v2 := .slice A2 s.stack.length c2) (v3 := .slice none 0 0) ((HB0.out.trans (B1.out.mono hs0.out)).trans (B2.out.mono (Nat.le_trans hs0.out B1.out.size))) (Nat.le_succ w.heap.size) G2.out
    refine bodyPost_ret (results_cell_row rfl _ _ _ _ _ _ _ rfl k2 Try.underlying82 rfl (by kernel_rfl)) rfl ?_
    refine ⟨_, _, rfl, ?_, ?_, ?_, k1⟩
    · exact own_chain4 ((V1.out.low hs0.out).below' B1.out B2.out) G2.out (by decide)
    · exact own_chain4 (V2.out.low (Nat.le_trans hs0.out B1.out.size)) G2.out (by decide)
    · exact ne_apart (fun k hk => own_lt V1.out k hk) (fun k hk => own_base V2.out k hk)
end Go.Proofs.Ytpdjkclacbgneaa
