/- verify's Entry. -/
import Derived.Test.YtpdjkclacbgneaaVCop
import Derived.Deep.DeepCutAuto
import Derived.Deep.LoopGhost
set_option linter.unusedVariables false
set_option linter.unusedSimpArgs false
namespace Go.Proofs.Ytpdjkclacbgneaa
open Go.RowKit Go.Shelf Go.Proofs.YtpdjkclacbgneaaW.PrintWords Go.Proofs.Ytpdjkclacbgneaa.Pl

/-- A row of types appended, nil let in. -/
theorem app_tysO {B : Nat} {W : World} {v : Value} {l l2 : List Ty} {A : Option Addr} {c : Nat} (ty : TypeId) (h : OwnTy B W v l) (hB : B ≤ W.heap.size) (h2 : Cells W A l2.length 2 (fun j => tyCs (l2.getD j default))) (hl : l.length + l2.length ≤ 2000) :
    ∃ v1 w1, (Builtin.append_ #[63, 63] ty #[v, .slice A l2.length c]).run Try.prog W = .ok v1 w1 ∧ OwnTy B w1 v1 (l ++ l2) ∧ W.grownBy w1 v.ownBlock ∧ (v1.ownBlock = v.ownBlock ∨ ∃ b, v1.ownBlock = some b ∧ W.heap.size ≤ b) := by
  rcases A with _ | ad
  · obtain rfl : l2 = [] := by
      rcases l2 with _ | ⟨a, r⟩
      · rfl
      · obtain ⟨ad, e, _⟩ := h2.2 (by simp)
        cases e
    obtain ⟨i0, hi, hzz⟩ := Option.map_eq_some_iff.1 tyInfo
    have hst : Try.prog.underlying 63 = some (.slice 48) := Try.underlying63
    refine ⟨v, W, ?_, by rw [List.append_nil]; exact h, World.grownBy.refl W _, .inl rfl⟩
    rcases h.2 with ⟨rfl, hn⟩ | ⟨g, cap, cur, rfl, _, _, hnc, _⟩
    · simp [Builtin.append_, run_underlying hst, sizeOf, typeInfo, hi, Builtin.lenOf, Builtin.firstCells]
    · simp [Builtin.append_, run_underlying hst, sizeOf, typeInfo, hi, Builtin.lenOf, Builtin.firstCells, hnc, storeCells]
  · exact app_tys ty h hB h2 hl
theorem OwnTy.lit (W : World) (B : Nat) (t : Ty) (hB : B ≤ W.heap.size) : OwnTy B (W.alloc (.cells #[.int .i64 t.kind, .string t.cls] 48)) (.slice (some ⟨W.heap.size, 0, none⟩) 1 1) [t] :=
  ⟨rfl, .inr ⟨W.heap.size, 1, _, rfl, hB, blk_new _ _, Nat.le_refl _, by unfold maxLen; omega, rfl, rfl⟩⟩
theorem ownlit2 (w : World) (o : Obj) (t : Ty) : OwnTy w.heap.size ((w.alloc o).alloc (.cells #[.int .i64 t.kind, .string t.cls] 48)) (.slice (some ⟨w.heap.size + 1, 0, none⟩) 1 1) [t] :=
  ⟨rfl, .inr ⟨w.heap.size + 1, 1, _, rfl, by omega, blk_second w o _, Nat.le_refl _, by unfold maxLen; omega, rfl, rfl⟩⟩
theorem cells8 {w : World} {g : Nat} {v0 v1 v2 v3 v4 v5 v6 v7 : Value} {t : TypeId} (h : w.heap[g]? = some (.cells #[v0, v1, v2, v3, v4, v5, v6, v7] t (0, 0))) : w.cell? ⟨g, 1, none⟩ = some v1 ∧ w.cell? ⟨g, 4, none⟩ = some v4 :=
  ⟨Bx.cell ⟨h⟩ (j := 1) rfl, Bx.cell ⟨h⟩ (j := 4) rfl⟩
/-- What an append to a row made here leaves of what was. -/
theorem only_bel' (w : World) {o : Obj} {w2 : World} {n c : Nat} (hg : (w.alloc o).grownBy w2 (Value.slice (some ⟨w.heap.size, 0, none⟩) n c).ownBlock) : Below w.heap.size w w2 :=
  pw_below_grown (balloc w o) _ (by simp) hg (fun k e => by cases e; exact Nat.le_refl _)
theorem ent1 (u : World) (cls : Nm) (ps : List Ty) (A : Option Addr) (c : Nat) (hc : Cells u A ps.length 2 (fun j => tyCs (ps.getD j default))) (hp : ps.length ≤ 900) :
    ∃ AL cL w5, (Builtin.append_ #[63, 63] 63 #[.slice (some ⟨u.heap.size, 0, none⟩) 1 1, .slice A ps.length c]).run Try.prog (u.alloc (.cells #[.int .i64 4, .string cls] 48)) = .ok (.slice AL (1 + ps.length) cL) w5 ∧ OwnTy u.heap.size w5 (.slice AL (1 + ps.length) cL) (refT cls :: ps) ∧ Below u.heap.size u w5 := by
  have hown : OwnTy u.heap.size (u.alloc (.cells #[.int .i64 4, .string cls] 48)) (.slice (some ⟨u.heap.size, 0, none⟩) 1 1) [refT cls] := OwnTy.lit u u.heap.size (refT cls) (Nat.le_refl _)
  have hbel : Below u.heap.size u (u.alloc (.cells #[.int .i64 4, .string cls] 48)) := balloc u _
  obtain ⟨v, w5, E, hv, hg, _⟩ := app_tysO (c := c) 63 hown (by simp) (hc.below hbel) (by simp; omega)
  obtain ⟨AL, cL, rfl⟩ := hv.slice
  have hn : ([refT cls] ++ ps).length = 1 + ps.length := by rw [List.length_append]; rfl
  rw [hn] at E hv
  exact ⟨AL, cL, w5, E, hv, pw_below_grown hbel _ (by simp) hg (fun k e => by cases e; simp)⟩
theorem ent2 (u : World) (cls : Nm) (ps : List Ty) (A : Option Addr) (c : Nat) (hc : Cells u A ps.length 2 (fun j => tyCs (ps.getD j default))) (hp : ps.length ≤ 900) :
    ∃ AL cL w5, (Builtin.append_ #[63, 63] 63 #[.slice (some ⟨u.heap.size, 0, none⟩) 1 1, .slice A ps.length c]).run Try.prog ((u.alloc (.cells #[.int .i64 4, .string cls] 48)).alloc (.cells #[.bool false, .slice none 0 0, .slice none 0 0, .slice none 0 0] 82)) = .ok (.slice AL (1 + ps.length) cL) w5 ∧ OwnTy u.heap.size w5 (.slice AL (1 + ps.length) cL) (refT cls :: ps) ∧ Below u.heap.size u w5 ∧ w5.heap[u.heap.size + 1]? = some (.cells #[.bool false, .slice none 0 0, .slice none 0 0, .slice none 0 0] 82 (0, 0)) := by
  have hown : OwnTy u.heap.size ((u.alloc (.cells #[.int .i64 4, .string cls] 48)).alloc (.cells #[.bool false, .slice none 0 0, .slice none 0 0, .slice none 0 0] 82)) (.slice (some ⟨u.heap.size, 0, none⟩) 1 1) [refT cls] := (OwnTy.lit u u.heap.size (refT cls) (Nat.le_refl _)).below (balloc _ _)
  have hbel : Below u.heap.size u ((u.alloc (.cells #[.int .i64 4, .string cls] 48)).alloc (.cells #[.bool false, .slice none 0 0, .slice none 0 0, .slice none 0 0] 82)) := bthen (balloc u _) (balloc _ _)
  obtain ⟨v, w5, E, hv, hg, _⟩ := app_tysO (c := c) 63 hown (by simp; omega) (hc.below hbel) (by simp; omega)
  obtain ⟨AL, cL, rfl⟩ := hv.slice
  have hn : ([refT cls] ++ ps).length = 1 + ps.length := by rw [List.length_append]; rfl
  rw [hn] at E hv
  exact ⟨AL, cL, w5, E, hv, pw_below_grown hbel _ (by simp; omega) hg (fun k e => by cases e; simp), blk_grown (blk_second u _ _) hg (by simp [Value.ownBlock])⟩
theorem ent3 (u : World) (cls : Nm) (ps : List Ty) (A : Option Addr) (c : Nat) (hc : Cells u A ps.length 2 (fun j => tyCs (ps.getD j default))) (hp : ps.length ≤ 900) :
    ∃ AL cL w5, (Builtin.append_ #[63, 63] 63 #[.slice (some ⟨u.heap.size + 1, 0, none⟩) 1 1, .slice A ps.length c]).run Try.prog ((u.alloc (.cells #[.bool false, .slice none 0 0, .slice none 0 0, .slice none 0 0] 82)).alloc (.cells #[.int .i64 4, .string cls] 48)) = .ok (.slice AL (1 + ps.length) cL) w5 ∧ OwnTy u.heap.size w5 (.slice AL (1 + ps.length) cL) (refT cls :: ps) ∧ Below u.heap.size u w5 ∧ w5.heap[u.heap.size]? = some (.cells #[.bool false, .slice none 0 0, .slice none 0 0, .slice none 0 0] 82 (0, 0)) := by
  have hown : OwnTy u.heap.size ((u.alloc (.cells #[.bool false, .slice none 0 0, .slice none 0 0, .slice none 0 0] 82)).alloc (.cells #[.int .i64 4, .string cls] 48)) (.slice (some ⟨u.heap.size + 1, 0, none⟩) 1 1) [refT cls] := ownlit2 u _ (refT cls)
  have hbel : Below u.heap.size u ((u.alloc (.cells #[.bool false, .slice none 0 0, .slice none 0 0, .slice none 0 0] 82)).alloc (.cells #[.int .i64 4, .string cls] 48)) := bthen (balloc u _) (balloc _ _)
  obtain ⟨v, w5, E, hv, hg, _⟩ := app_tysO (c := c) 63 hown (by simp; omega) (hc.below hbel) (by simp; omega)
  obtain ⟨AL, cL, rfl⟩ := hv.slice
  have hn : ([refT cls] ++ ps).length = 1 + ps.length := by rw [List.length_append]; rfl
  rw [hn] at E hv
  exact ⟨AL, cL, w5, E, hv, pw_below_grown hbel _ (by simp; omega) hg (fun k e => by cases e; simp), blk_grown (blk_alloc (blk_new u _) _) hg (by simp [Value.ownBlock])⟩
/-- What Entry's first statement leaves: its state lies in the block b. -/
structure EntSt (w wx : World) (b : Nat) (A : Option Addr) (c : Nat) (l : List Ty) (mo zo : Obj) : Prop where
  bel : Below w.heap.size w wx
  own : OwnTy w.heap.size wx (.slice A l.length c) l
  blk : wx.heap[b]? = some (.cells #[.bool true, .slice A l.length c, .slice none 0 0, .slice none 0 0] 82 (0, 0))
  mth : wx.heap[w.heap.size]? = some mo
  res : wx.heap[w.heap.size + 1]? = some zo
  far : w.heap.size + 1 < b
theorem ent_alloc {w W : World} {B n c : Nat} {A : Option Addr} {l : List Ty} {mo zo : Obj} (hb : Below w.heap.size w W) (ho : OwnTy B W (.slice A (1 + n) c) l) (hB : w.heap.size ≤ B) (hl : l.length = 1 + n) (hm : W.heap[w.heap.size]? = some mo) (hz : W.heap[w.heap.size + 1]? = some zo) :
    EntSt w (W.alloc (.cells #[.bool true, .slice A (1 + n) c, .slice none 0 0, .slice none 0 0] 82)) W.heap.size A c l mo zo := by
  have hb2 : Below W.heap.size W (W.alloc (.cells #[.bool true, .slice A (1 + n) c, .slice none 0 0, .slice none 0 0] 82)) := balloc _ _
  exact ⟨bthen hb hb2, by rw [hl]; exact (ho.low hB).below hb2, by rw [hl]; exact blk_new _ _, blk_below hm hb2, blk_below hz hb2, blk_lt hz⟩
theorem ent_set {w W : World} {B n c b : Nat} {A : Option Addr} {l : List Ty} {mo zo : Obj} (hb : Below w.heap.size w W) (ho : OwnTy B W (.slice A (1 + n) c) l) (hB : w.heap.size ≤ B) (hl : l.length = 1 + n) (hm : W.heap[w.heap.size]? = some mo) (hz : W.heap[w.heap.size + 1]? = some zo)
    (hs : W.heap[b]? = some (.cells #[.bool false, .slice none 0 0, .slice none 0 0, .slice none 0 0] 82 (0, 0))) (hlt : w.heap.size + 1 < b) :
    EntSt w ((((W.setCell ⟨b, 0, none⟩ (.bool true)).setCell ⟨b, 1, none⟩ (.slice A (1 + n) c)).setCell ⟨b, 2, none⟩ (.slice none 0 0)).setCell ⟨b, 3, none⟩ (.slice none 0 0)) b A c l mo zo := by
  obtain ⟨k1, k2⟩ := chain4_own (v0 := .bool true) (v1 := .slice A (1 + n) c) (v2 := .slice none 0 0) (v3 := .slice none 0 0) hb (by omega) hs
  refine ⟨k1, by rw [hl]; exact own_chain4 (ho.low hB) hs (by decide), by rw [hl]; exact k2, ?_, ?_, hlt⟩
  · rw [Below.heap_setCell _ _ _ _ (by simp; omega), Below.heap_setCell _ _ _ _ (by simp; omega), Below.heap_setCell _ _ _ _ (by simp; omega), Below.heap_setCell _ _ _ _ (by simp; omega)]
    exact hm
  · rw [Below.heap_setCell _ _ _ _ (by simp; omega), Below.heap_setCell _ _ _ _ (by simp; omega), Below.heap_setCell _ _ _ _ (by simp; omega), Below.heap_setCell _ _ _ _ (by simp; omega)]
    exact hz
theorem ent_step {w wr W3 w3 : World} {b c c3 : Nat} {A A3 : Option Addr} {l : List Ty} {t : Ty} {mcs zcs : Array Value} (h : EntSt w wr b A c l (.cells mcs 66 (0, 0)) (.cells zcs 82 (0, 0))) (hb : Below wr.heap.size wr W3)
    (hg : W3.grownBy w3 (Value.slice A l.length c).ownBlock) (hv : OwnTy w.heap.size w3 (.slice A3 (l ++ [t]).length c3) (l ++ [t])) :
    EntSt w (w3.setCell ⟨b, 1, none⟩ (.slice A3 (l ++ [t]).length c3)) b A3 c3 (l ++ [t]) (.cells mcs 66 (0, 0)) (.cells zcs 82 (0, 0)) := by
  obtain ⟨h1, h2, h3, h4, h5, h6⟩ := h
  have n3 := own_ne h2 h3 (by decide)
  have n4 := own_ne h2 h4 (by decide)
  have n5 := own_ne h2 h5 (by decide)
  have k3 := blk_grown (blk_below h3 hb) hg n3
  have k4 := blk_grown (blk_below h4 hb) hg n4
  have k5 := blk_grown (blk_below h5 hb) hg n5
  have hs := h1.size
  have hs2 := hb.size
  have b2 : Below w.heap.size w w3 := pw_below_grown (h1.trans (hb.mono hs)) _ (by omega) hg (fun k e => own_base h2 k e)
  refine ⟨b2.setCell (p := ⟨b, 1, none⟩) (by simp; omega) _, own_set hv k3 (by decide), by rw [heap_set k3]; rfl, ?_, ?_, h6⟩
  · rw [Below.heap_setCell _ _ _ _ (by simp; omega)]
    exact k4
  · rw [Below.heap_setCell _ _ _ _ (by simp; omega)]
    exact k5
/-- A call of a function, as one step of a region that draws its order: by its contract. -/
theorem call_event {P : Program} {ops : Array Oper} {o : Oper} {a : Act} {Q : Exit → Act → World → Prop} {Kc : Act → World → Prop} {W : World} {f : FuncId} {cargs : Array Operand} {tys : Array TypeId} {vs : Array Value} {R : Ending → World → Prop}
    (he : ∀ args w, (callFunc f args).run P w = .ok (.enter f args) w) (hR : Calls P f vs W R) (hw : Region.wanted o (yielded ops a.tmps) = true) (ho : o.op = .call { callee := .value (.func f), args := cargs, argTypes := tys }) (hv' : cargs.toList.map a.eval = vs.toList)
    (h : ∀ e w', R e w' → ∃ v, e = .returned v ∧ Kc (a.put o.dst v) w') :
    if Region.wanted o (yielded ops a.tmps) = true then Oper.wp P o a W Kc Q else Kc (a.put o.dst undef) W := by
  rw [if_pos hw]
  have hv : cargs.map a.eval = vs := by
    apply Array.ext'
    simpa using hv'
  have hrun : (execOp a.eval o).run P W = .ok (.enter f vs) W := by
    have hf : a.eval (.func f) = .func (.func f) #[] #[] := rfl
    simp [execOp, ho, resolve, Deferred.ofValue, invoke, hf, hv, he]
  unfold Oper.wp
  rw [hrun]
  refine hR.mono fun e w' hr => ?_
  obtain ⟨v, rfl, hk⟩ := h e w' hr
  exact hk
theorem ent_round {w wr w1 : World} {b c n : Nat} {A : Option Addr} {l : List Ty} {mcs zcs : Array Value} (h : EntSt w wr b A c l (.cells mcs 66 (0, 0)) (.cells zcs 82 (0, 0))) (hn : l.length = n) (h9 : n ≤ 900) (hb : Below wr.heap.size wr w1) :
    ∃ A3 c3 w3, (Builtin.append_ #[63, 63] 63 #[.slice A n c, .slice (some ⟨w1.heap.size, 0, none⟩) 1 1]).run Try.prog (w1.alloc (.cells #[.int .i64 6, .string ⟨#[]⟩] 48)) = .ok (.slice A3 (n + 1) c3) w3 ∧
      EntSt w (w3.setCell ⟨b, 1, none⟩ (.slice A3 (n + 1) c3)) b A3 c3 (l ++ [kindT 6]) (.cells mcs 66 (0, 0)) (.cells zcs 82 (0, 0)) ∧
      w3.heap[b]? = some (.cells #[.bool true, .slice A n c, .slice none 0 0, .slice none 0 0] 82 (0, 0)) ∧ w3.heap[w.heap.size]? = some (.cells mcs 66 (0, 0)) := by
  subst hn
  have hb2 : Below wr.heap.size wr (w1.alloc (.cells #[.int .i64 6, .string ⟨#[]⟩] 48)) := bthen hb (balloc w1 _)
  have hs := h.bel.size
  have hs2 := hb2.size
  obtain ⟨v3, w3, E3, hv3, hg3, _⟩ := app_ty (t := kindT 6) (bx := w1.heap.size) 63 (h.own.below hb2) (by omega) (blk_new w1 _) (by omega)
  obtain ⟨A3, c3, rfl⟩ := hv3.slice
  have hf := ent_step h hb2 hg3 hv3
  have hb3 := blk_grown (blk_below h.blk hb2) hg3 (own_ne h.own h.blk (by decide))
  rw [List.length_append, show [kindT 6].length = 1 from rfl] at E3 hf
  exact ⟨A3, c3, w3, E3, hf, hb3, blk_grown (blk_below h.mth hb2) hg3 (own_ne h.own h.mth (by decide))⟩
set_option maxRecDepth 10000 in
set_option maxHeartbeats 2000000 in
theorem entry_any (cls : Nm) (m : Mt) (mc : List Value) (w : World) (hm : mtK.K w m mc) (hp : m.params.length ≤ 900) (hloc : m.locals ≤ 900) :
    Calls Try.prog 52 #[.string cls, .agg mc.toArray] w fun e w' => ∃ L, e = .returned (.agg #[.bool true, L, .slice none 0 0, .slice none 0 0]) ∧ OwnTy w.heap.size w' L (entry cls m).locals ∧ Below w.heap.size w w' := by
  obtain ⟨A0, c0, A1, c1, A2, c2, rfl, ⟨k0, k1, k2⟩, r0, r1, r2⟩ := mtK_open hm
  have CP := cells_ty r0
  obtain ⟨W0, hW0⟩ : ∃ W0, (w.alloc (.cells #[.string m.name, .slice A0 m.params.length c0, .int .i64 m.ret.kind, .string m.ret.cls, .int .i64 m.locals, .int .i64 m.stack, .slice A1 m.code.length c1, .slice A2 m.handlers.length c2] 66)).alloc (.cells #[.bool false, .slice none 0 0, .slice none 0 0, .slice none 0 0] 82) = W0 := ⟨_, rfl⟩
  have hb0 : Below w.heap.size w W0 := by rw [← hW0]; exact bthen (balloc _ _) (balloc _ _)
  have hz : W0.heap[w.heap.size]? = some (.cells #[.string m.name, .slice A0 m.params.length c0, .int .i64 m.ret.kind, .string m.ret.cls, .int .i64 m.locals, .int .i64 m.stack, .slice A1 m.code.length c1, .slice A2 m.handlers.length c2] 66 (0, 0)) := by rw [← hW0]; exact blk_alloc (blk_new w _) _
  have hg : W0.heap[w.heap.size + 1]? = some (.cells #[.bool false, .slice none 0 0, .slice none 0 0, .slice none 0 0] 82 (0, 0)) := by rw [← hW0]; exact blk_second w _ _
  have hs0 : W0.heap.size = w.heap.size + 2 := by rw [← hW0]; simp
  obtain ⟨z1, z4⟩ := cells8 hz
  have z1d : W0.drew.cell? ⟨w.heap.size, 1, none⟩ = some (.slice A0 m.params.length c0) := z1
  have HB0 := Aside0.mk (below_drew hb0)
  have HZ := Aside0.mk (blk_drew hz)
  have HG := Aside0.mk (blk_drew hg)
  have HP := Lib.hid hp
  have HC := Aside0.mk ((CP.below hb0).below (below_drew (Below.refl W0.heap.size W0)))
  have HS0 := Lib.hid hs0
  clear hm r0 r1 r2 CP hb0 hz hg hp k1 k2 hs0
  go_enter Try.func52, Try.ntmps52
  go_upto_region 1 with fail
  clear hW0
  go_cut [5] (fun s5 wx => ∃ (b : Nat) (A : Option Addr) (c : Nat), s5 = .pointer (some ⟨b, 0, none⟩) ∧ Aside0 (EntSt w wx b A c (refT cls :: m.params) (.cells #[.string m.name, .slice A0 m.params.length c0, .int .i64 m.ret.kind, .string m.ret.cls, .int .i64 m.locals, .int .i64 m.stack, .slice A1 m.code.length c1, .slice A2 m.handlers.length c2] 66 (0, 0)) (.cells #[.bool false, .slice none 0 0, .slice none 0 0, .slice none 0 0] 82 (0, 0))))
  case first =>
    have z1e : (W0.alloc (.cells #[.bool false, .slice none 0 0, .slice none 0 0, .slice none 0 0] 82)).drew.cell? ⟨w.heap.size, 1, none⟩ = some (.slice A0 m.params.length c0) := pw_cell_below (balloc W0 _) z1
    have HCe : Aside0 (Cells (W0.alloc (.cells #[.bool false, .slice none 0 0, .slice none 0 0, .slice none 0 0] 82)).drew A0 m.params.length 2 (fun j => tyCs (m.params.getD j default))) := ⟨HC.out.below (balloc W0.drew _)⟩
    have hS5 : Aside0 ((W0.alloc (.cells #[.bool false, .slice none 0 0, .slice none 0 0, .slice none 0 0] 82)).drew.heap[W0.heap.size]? = some (.cells #[.bool false, .slice none 0 0, .slice none 0 0, .slice none 0 0] 82 (0, 0))) := ⟨blk_new W0 _⟩
    have hz1 : w.heap.size < W0.heap.size := by have := HS0.out; omega
    have HBe : Aside0 (Below w.heap.size w (W0.alloc (.cells #[.bool false, .slice none 0 0, .slice none 0 0, .slice none 0 0] 82)).drew) := ⟨bthen HB0.out (balloc W0.drew _)⟩
    go_region_held3 (fun w' => w'.cell? ⟨w.heap.size, 1, none⟩ = some (.slice A0 m.params.length c0)) (first | (with_reducible exact z1d) | (with_reducible exact z1e) | (with_reducible exact y1) | (with_reducible exact ya _) | (with_reducible exact yb _ _) | (with_reducible exact x2) | (with_reducible exact xa2 _) | (with_reducible exact x3) | (with_reducible exact x4) | (with_reducible exact y5) | (with_reducible exact ya5 _) | (with_reducible exact x5) | ((with_reducible refine chain4 ?_ (xa2 _)); simp; omega) | ((with_reducible refine chain4 ?_ x3); simp; omega) | ((with_reducible refine chain4 ?_ x4); simp; omega) | ((with_reducible refine chain4 ?_ x5); simp; omega)) (first
        | (go_at_call 78; (with_reducible refine (ref_any cls W0.drew).mono ?_); rintro e w1 ⟨rfl, hb1⟩; have y1 := pw_cell_below hb1 z1d; have ya := fun o => pw_cell_below (balloc w1 o) y1; have yb := fun o o' => pw_cell_below (bthen (balloc w1 o) (balloc _ o')) y1; have hw1 : W0.heap.size ≤ w1.heap.size := hb1.size; have HC1 := HC.out.below hb1; obtain ⟨AL2, cL2, w2, E2, V2, B2⟩ := ent1 w1 cls m.params A0 c0 HC1 HP.out; obtain ⟨AL3, cL3, w3, E3, V3, B3, S3⟩ := ent2 w1 cls m.params A0 c0 HC1 HP.out; obtain ⟨AL4, cL4, w4, E4, V4, B4, S4⟩ := ent3 w1 cls m.params A0 c0 HC1 HP.out; have x2 := pw_cell_below B2 y1; have x3 := pw_cell_below B3 y1; have x4 := pw_cell_below B4 y1; have xa2 := fun o => pw_cell_below (balloc w2 o) x2; have b2 : w1.heap.size ≤ w2.heap.size := B2.size; obtain ⟨s0, s1, s2, s3, s4⟩ := cells4 S3; obtain ⟨t0, t1, t2, t3, t4⟩ := cells4 S4; have V2 := Aside0.mk V2; have V3 := Aside0.mk V3; have V4 := Aside0.mk V4; have B2 := Aside0.mk B2; have B3 := Aside0.mk B3; have B4 := Aside0.mk B4; have S3 := Aside0.mk S3; have S4 := Aside0.mk S4; have B1 := Aside0.mk hb1; clear hb1 HC1)
        | (go_at_call 78; (with_reducible refine (ref_any cls (W0.alloc (.cells #[.bool false, .slice none 0 0, .slice none 0 0, .slice none 0 0] 82)).drew).mono ?_); rintro e u1 ⟨rfl, hb5⟩; have y5 := pw_cell_below hb5 z1e; have ya5 := fun o => pw_cell_below (balloc u1 o) y5; have hu5 : W0.heap.size + 1 ≤ u1.heap.size := (by have := hb5.size; simpa using this); have S5 := blk_below hS5.out hb5; obtain ⟨AL5, cL5, w5, E5, V5, B5⟩ := ent1 u1 cls m.params A0 c0 (HCe.out.below hb5) HP.out; have S5 := blk_below S5 B5; obtain ⟨p0, p1, p2, p3, p4⟩ := cells4 S5; have x5 := pw_cell_below B5 y5; have V5 := Aside0.mk V5; have B5 := Aside0.mk B5; have S5 := Aside0.mk S5; have U1 := Aside0.mk hb5; clear hb5)
        | (refine append_event (v := .slice (some ⟨w1.heap.size, 0, none⟩) 1 1) (u := .slice A0 m.params.length c0) _ _ (by rfl) rfl rfl rfl (by with_reducible exact E2) ?_)
        | (refine append_event (v := .slice (some ⟨w1.heap.size, 0, none⟩) 1 1) (u := .slice A0 m.params.length c0) _ _ (by rfl) rfl rfl rfl (by with_reducible exact E3) ?_)
        | (refine append_event (v := .slice (some ⟨w1.heap.size + 1, 0, none⟩) 1 1) (u := .slice A0 m.params.length c0) _ _ (by rfl) rfl rfl rfl (by with_reducible exact E4) ?_)
        | (refine append_event (v := .slice (some ⟨u1.heap.size, 0, none⟩) 1 1) (u := .slice A0 m.params.length c0) _ _ (by rfl) rfl rfl rfl (by with_reducible exact E5) ?_))
    all_goals
      go_wp2_with fail
      go_meet
      have hl : (refT cls :: m.params).length = 1 + m.params.length := by simp; omega
      first
        | exact ⟨_, _, _, rfl, ⟨ent_alloc (bthen (bthen HB0.out B1.out) B2.out) V2.out (Nat.le_trans (Nat.le_of_lt hz1) hw1) hl (blk_below (blk_below HZ.out B1.out) B2.out) (blk_below (blk_below HG.out B1.out) B2.out)⟩⟩
        | exact ⟨_, _, _, rfl, ⟨ent_set (bthen (bthen HB0.out B1.out) B3.out) V3.out (Nat.le_trans (Nat.le_of_lt hz1) hw1) hl (blk_below (blk_below HZ.out B1.out) B3.out) (blk_below (blk_below HG.out B1.out) B3.out) S3.out (by have := HS0.out; omega)⟩⟩
        | exact ⟨_, _, _, rfl, ⟨ent_set (bthen (bthen HB0.out B1.out) B4.out) V4.out (Nat.le_trans (Nat.le_of_lt hz1) hw1) hl (blk_below (blk_below HZ.out B1.out) B4.out) (blk_below (blk_below HG.out B1.out) B4.out) S4.out (by have := HS0.out; omega)⟩⟩
        | exact ⟨_, _, _, rfl, ⟨ent_set (bthen (bthen HBe.out U1.out) B5.out) V5.out (by omega) hl (blk_below (blk_below (blk_alloc HZ.out _) U1.out) B5.out) (blk_below (blk_below (blk_alloc HG.out _) U1.out) B5.out) S5.out (by have := HS0.out; omega)⟩⟩
  case rest =>
    obtain ⟨b, A, c, rfl, HE⟩ := hcut
    clear z1 z1d
    go_wp2_with fail
    go_loopg [] (m.locals.toNat - (1 + m.params.length)) (fun gk wr => ∃ (j : Nat) (A : Option Addr) (c : Nat), j ≤ m.locals.toNat - (1 + m.params.length) ∧ m.locals.toNat - (1 + m.params.length) - j ≤ gk ∧ Aside0 (EntSt w wr b A c ((refT cls :: m.params) ++ List.replicate j (kindT 6)) (.cells #[.string m.name, .slice A0 m.params.length c0, .int .i64 m.ret.kind, .string m.ret.cls, .int .i64 m.locals, .int .i64 m.stack, .slice A1 m.code.length c1, .slice A2 m.handlers.length c2] 66 (0, 0)) (.cells #[.bool false, .slice none 0 0, .slice none 0 0, .slice none 0 0] 82 (0, 0))))
    case atStart => exact ⟨0, A, c, Nat.zero_le _, Nat.le_refl _, by simpa using HE⟩
    case round =>
      obtain ⟨j, A, c, hj, hgk, HR⟩ := hrel
      clear HE
      obtain ⟨l, hl⟩ : ∃ l, (refT cls :: m.params) ++ List.replicate j (kindT 6) = l := ⟨_, rfl⟩
      have hlen : l.length = 1 + m.params.length + j := by rw [← hl]; simp; omega
      rw [hl] at HR
      have HLL := Lib.hid hl
      clear hl
      obtain ⟨n, hn⟩ : ∃ n, l.length = n := ⟨_, rfl⟩
      have HRb := HR.out.blk
      have HRo := HR.out.own
      rw [hn] at HRb HRo hlen
      have hps := HP.out
      obtain ⟨y0, y1, y2, y3, y4⟩ := cells4 HRb
      obtain ⟨z1, z4⟩ := cells8 HR.out.mth
      have HN := Lib.hid hn
      clear hn
      by_cases hlt : (n : Int) < m.locals
      · have hn9 : n ≤ 900 := by omega
        have HLEN := Lib.hid hlen
        clear hlen HRb
        have yd : wr.drew.cell? ⟨b, 1, none⟩ = some (.slice A n c) := y1
        have yf : wr.drew.frozen? ⟨b, 1, none⟩ = false := y4 1
        have HRO := Aside0.mk HRo
        have HSZ := Lib.hid HR.out.bel.size
        clear HRo
        go_wp2_with fail
        clear z1 y0 y2 y3
        have HNO := HN.out
        have KR : ∀ w1, Below wr.heap.size wr w1 → _ := fun w1 hb => ent_round (n := n) HR.out HN.out hn9 hb
        have KR := Aside0.mk KR
        clear HNO
        have eK := Aside0.mk (enters_of Try.func79 (by kernel_rfl) rfl)
        go_region_law (first
          | (refine call_event eK.out (kind_any 6 wr.drew) (by rfl) rfl (by rfl) ?_; rintro e w1 ⟨rfl, hw1⟩; refine ⟨_, rfl, ?_⟩; have hb1 : Below wr.heap.size wr w1 := (by rw [hw1]; exact bthen (below_drew (Below.refl _ wr)) (balloc wr.drew _)); have p1 := pw_cell_below hb1 y1; have pa := fun o => pw_cell_below (balloc w1 o) p1; obtain ⟨A3, c3, w3, E3, hf, hq, hm⟩ := KR.out w1 hb1; have HF := Aside0.mk hf; obtain ⟨q0, q1, q2, q3, q4⟩ := cells4 hq; clear hf hq hw1 hb1 q0 q2 q3 hm)
          | (refine append_event (v := .slice A n c) (u := .slice (some ⟨w1.heap.size, 0, none⟩) 1 1) _ _ (by rfl) rfl rfl rfl (by with_reducible exact E3) ?_))
        all_goals
          have HL2 : Hid ((refT cls :: m.params) ++ List.replicate (j + 1) (kindT 6) = l ++ [kindT 6]) := Lib.hid (by rw [List.replicate_succ', ← List.append_assoc, HLL.out])
          clear q1 q4 y1 y4 yd yf
          go_wp2
          go_roundg (m.locals.toNat - (1 + m.params.length) - (j + 1))
          case measure => have := HLEN.out; omega
          case rel => exact ⟨j + 1, A3, c3, by have := HLEN.out; omega, by omega, ⟨by rw [HL2.out]; exact HF.out⟩⟩
      · have hj2 : j = m.locals.toNat - (1 + m.params.length) := by omega
        have HJ2 := Lib.hid hj2
        have HRS := HR.out.res
        obtain ⟨r0, r1, r2, r3, rf⟩ := cells4 HRS
        have HRES := Aside0.mk HRS
        obtain ⟨k1, k2⟩ := chain4_own (v0 := .bool true) (v1 := .slice A n c) (v2 := .slice none 0 0) (v3 := .slice none 0 0) HR.out.bel (Nat.le_succ w.heap.size) HRS
        have k3 := own_chain4 (v0 := .bool true) (v1 := .slice A n c) (v2 := .slice none 0 0) (v3 := .slice none 0 0) HRo HRS (by decide)
        have K1 := Aside0.mk k1
        have K2 := Aside0.mk k2
        have K3 := Aside0.mk k3
        have HX : Hid (l = (entry cls m).locals) := Lib.hid (by rw [← HLL.out, HJ2.out]; rfl)
        clear hlen hj2 k1 k2 k3 HRS HRb HRo
        go_wp2
        refine bodyPost_ret (results_cell_row rfl _ _ _ _ _ _ _ rfl K2.out Try.underlying82 rfl (by kernel_rfl)) rfl ?_
        exact ⟨_, rfl, by rw [← HX.out]; exact K3.out, K1.out⟩
end Go.Proofs.Ytpdjkclacbgneaa
