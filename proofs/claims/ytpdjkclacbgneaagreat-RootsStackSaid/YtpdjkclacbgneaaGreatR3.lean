/- roots; loomlaw10: known, RootsStack. -/
import Derived.Test.YtpdjkclacbgneaaGreatKBZ
import Derived.Test.YtpdjkclacbgneaaGreatR1
import Derived.OwnWalk
import Derived.StillTailTactics
import Derived.Test.YtpdjkclacbgneaaGreatR2
import Derived.OpenShut
set_option linter.unusedVariables false
set_option linter.unusedSimpArgs false
namespace Go.Proofs.YtpdjkclacbgneaaGreat
open Go.RowKit Go.Shelf Go.Proofs.YtpdjkclacbgneaaGreatW.PrintWords Go.Proofs.YtpdjkclacbgneaaGreat.Pl

def rKey : Value := .agg #[.string nMain, .string nmain]
theorem rcheck (c : Bool) (w : World) : (Instr.checkKey c 10000 80 rKey).run Tryz.prog w = .ok () w := by kernel_rfl
theorem rfind0 (w : World) : (Instr.findKey 80 rKey []).run Tryz.prog w = .ok none w := by kernel_rfl
theorem rfind1 (v : Value) (n : Nat) (w : World) : (Instr.findKey 80 rKey [{ key := rKey, val := v, born := n }]).run Tryz.prog w = .ok (some (0, v)) w := by kernel_rfl
theorem rlook {w : World} {b n c : Nat} {v : Value} (h : w.heap[b]? = some (.map #[{ key := rKey, val := v, born := n }] c)) : (Instr.lookup 69 (.map (some b)) rKey false).run Tryz.prog w = .ok v w := by
  simp [Instr.lookup, run_underlying Tryz.underlying69, MapKept.run_getObj_map h, rcheck, rfind1, Result.andThen]
theorem rput {w : World} {b c : Nat} (v : Value) (h : w.heap[b]? = some (.map #[] c)) : (Instr.mapUpdate 69 (.map (some b)) rKey v).run Tryz.prog w = .ok () { w with heap := w.heap.setIfInBounds b (.map #[{ key := rKey, val := v, born := c }] (c + 1)) } := by
  simp [Instr.mapUpdate, run_underlying Tryz.underlying69, MapKept.run_getObj_map h, rcheck, rfind0, MapKept.run_setObj_map _ h, Result.andThen]
/-- A row of states in memory. -/
def StRow (w : World) (v : Value) (L : List St) : Prop :=
  ∃ lb cs, v = .slice (some ⟨lb, 0, none⟩) L.length L.length ∧ w.heap[lb]? = some (.cells cs ST (0, 0)) ∧ cs.size = L.length * 4 ∧ ∀ i st, L[i]? = some st → ∃ B Lv Sv ka kn kc, cs[i * 4]? = some (.bool st.reached) ∧ cs[i * 4 + 1]? = some Lv ∧ cs[i * 4 + 2]? = some Sv ∧ cs[i * 4 + 3]? = some (.slice ka kn kc) ∧ OwnTy B w Lv st.locals ∧ OwnTy B w Sv st.stack
theorem StRow.of {wB w : World} {v : Value} {L : List St} {Ls : List (List Int)} (h : LRes wB w v L Ls) : StRow w v L := by
  obtain ⟨B, lb, cs, tv, h1, h2, h3, h4, h5, h6⟩ := h
  refine ⟨lb, cs, h2, h3, h4, fun i st hi => ?_⟩
  have hl := (List.getElem?_eq_some_iff.1 hi).1
  obtain ⟨Lv, Sv, kv, a1, a2, a3, a4, a5, a6, a7, _⟩ := (h6 i st Ls[i] hi (List.getElem?_eq_getElem (by omega))).out
  obtain ⟨ka, kc, rfl⟩ := a7.slice
  exact ⟨B, Lv, Sv, ka, _, kc, a1, a2, a3, a4, a5, a6⟩
theorem StRow.below {w w1 : World} {v : Value} {L : List St} (h : StRow w v L) (hb : Below w.heap.size w w1) : StRow w1 v L := by
  obtain ⟨lb, cs, h1, h2, h3, h4⟩ := h
  refine ⟨lb, cs, h1, blk_below h2 hb, h3, fun i st hi => ?_⟩
  obtain ⟨B, Lv, Sv, ka, kn, kc, a1, a2, a3, a4, a5, a6⟩ := h4 i st hi
  exact ⟨B, Lv, Sv, ka, kn, kc, a1, a2, a3, a4, a5.below hb, a6.below hb⟩
/-- The maps of a program of one method. -/
structure MapsIs (w : World) (mp : Nat) (L : List St) : Prop where
  out : ∃ b n c v, w.heap[mp]? = some (.cells #[.map (some b)] 71 (0, 0)) ∧ w.heap[b]? = some (.map #[{ key := rKey, val := v, born := n }] c) ∧ StRow w v L ∧ L.length ≤ 100000
theorem MapsIs.below {w w1 : World} {mp : Nat} {L : List St} (h : MapsIs w mp L) (hb : Below w.heap.size w w1) : MapsIs w1 mp L := by
  obtain ⟨b, n, c, v, h1, h2, h3, h4⟩ := h.out
  exact ⟨b, n, c, v, blk_below h1 hb, blk_below h2 hb, h3.below hb, h4⟩
def stAt (L : List St) (pc : Int) : St := if pc < 0 then default else L.getD pc.toNat default
set_option maxRecDepth 10000 in
set_option maxHeartbeats 1000000 in
theorem state_any (w : World) (mp : Nat) (L : List St) (pc : Int) (H : MapsIs w mp L) :
    Calls Tryz.prog 19 #[.pointer (some ⟨mp, 0, none⟩), .string nMain, .string nmain, .int .i64 pc] w fun e w' => ∃ B Lv Sv ka kn kc, e = .returned (.agg #[.bool (stAt L pc).reached, Lv, Sv, .slice ka kn kc]) ∧ OwnTy B w' Lv (stAt L pc).locals ∧ OwnTy B w' Sv (stAt L pc).stack ∧ Below w.heap.size w w' := by
  obtain ⟨b, n, c, v, h1, h2, h3, h4⟩ := H.out
  obtain ⟨w0, hw0⟩ : ∃ w0, w.alloc (.cells #[.bool false, .slice none 0 0, .slice none 0 0, .slice none 0 0] 83) = w0 := ⟨_, rfl⟩
  have hb0 : Below w.heap.size w w0 := by rw [← hw0]; exact balloc _ _
  have hg0 : w0.heap[w.heap.size]? = some (.cells #[.bool false, .slice none 0 0, .slice none 0 0, .slice none 0 0] 83 (0, 0)) := by rw [← hw0]; exact blk_new _ _
  have hm : w0.cell? ⟨mp, 0, none⟩ = some (.map (some b)) := Bx.cell ⟨blk_below h1 hb0⟩ (j := 0) rfl
  have hlk := rlook (blk_below h2 hb0)
  unfold rKey at hlk
  obtain ⟨lb, cs, rfl, s2, s3, s4⟩ := h3.below hb0
  have B0 := Aside0.mk hb0
  have G0 := Aside0.mk hg0
  obtain ⟨g0, g1, g2, g3, gf⟩ := cells4 hg0
  obtain ⟨nl, hnl⟩ : ∃ nl, L.length = nl := ⟨_, rfl⟩
  rw [hnl] at hlk h4
  have S4 := Aside0.mk s4
  have S2 := Aside0.mk s2
  have HNL := Lib.hid hnl
  clear H h1 h2 h3 hb0 hg0 s2 s3 s4 hnl
  go_enter Tryz.func19, Tryz.ntmps19
  by_cases hneg : pc < 0
  · have HS : Hid (stAt L pc = default) := Lib.hid (if_pos hneg)
    go_wp2
    obtain ⟨k1, k2⟩ := chain4_own (v0 := .bool false) (v1 := .slice none 0 0) (v2 := .slice none 0 0) (v3 := .slice none 0 0) B0.out (Nat.le_refl w.heap.size) G0.out
    refine bodyPost_ret (results_cell_row rfl _ _ _ _ _ _ _ rfl k2 Tryz.underlying83 rfl (by kernel_rfl)) rfl ?_
    rw [HS.out]
    first | exact ⟨0, _, _, _, _, _, rfl, own_nil _ _ _ _, own_nil _ _ _ _, k1⟩ | exact ⟨0, _, _, ⟨_, _, _, rfl⟩, own_nil _ _ _ _, own_nil _ _ _ _, k1⟩
  obtain ⟨k, rfl⟩ : ∃ k : Nat, pc = k := ⟨pc.toNat, by omega⟩
  have HS : Hid (stAt L (k : Int) = L.getD k default) := Lib.hid (by unfold stAt; rw [if_neg hneg, Int.toNat_natCast])
  by_cases hge : (k : Int) ≥ (nl : Int)
  · have HD : Hid (stAt L (k : Int) = default) := Lib.hid (by rw [HS.out, List.getD_eq_getElem?_getD, List.getElem?_eq_none (by have := HNL.out; omega)]; rfl)
    go_wp2
    obtain ⟨k1, k2⟩ := chain4_own (v0 := .bool false) (v1 := .slice none 0 0) (v2 := .slice none 0 0) (v3 := .slice none 0 0) B0.out (Nat.le_refl w.heap.size) G0.out
    refine bodyPost_ret (results_cell_row rfl _ _ _ _ _ _ _ rfl k2 Tryz.underlying83 rfl (by kernel_rfl)) rfl ?_
    rw [HD.out]
    first | exact ⟨0, _, _, _, _, _, rfl, own_nil _ _ _ _, own_nil _ _ _ _, k1⟩ | exact ⟨0, _, _, ⟨_, _, _, rfl⟩, own_nil _ _ _ _, own_nil _ _ _ _, k1⟩
  · have hk : k < L.length := by have := HNL.out; omega
    have hk0 : (0 : Int) ≤ (k : Int) := by omega
    have hkl : (k : Int) < (nl : Int) := by omega
    obtain ⟨B, Lv, Sv, ka, kn, kc, a1, a2, a3, a4, a5, a6⟩ := S4.out k _ (List.getElem?_eq_getElem hk)
    have hst : L.getD k default = L[k] := by rw [List.getD_eq_getElem?_getD, List.getElem?_eq_getElem hk]; rfl
    rw [← hst, ← HS.out] at a1 a5 a6
    obtain ⟨AL, cL, rfl⟩ := a5.slice
    obtain ⟨AS, cS, rfl⟩ := a6.slice
    obtain ⟨al, hal⟩ : ∃ al : Addr, (⟨lb, 0, none⟩ : Addr) = al := ⟨_, rfl⟩
    have x0 : w0.cell? (al.add (k * 4)) = some (.bool (stAt L (k : Int)).reached) := by rw [← hal, add_lit]; exact Bx.cell ⟨S2.out⟩ a1
    have x1 : w0.cell? ⟨(al.add (k * 4)).block, (al.add (k * 4)).off + 1, none⟩ = some (.slice AL (stAt L (k : Int)).locals.length cL) := by rw [← hal, add_row]; exact Bx.cell ⟨S2.out⟩ a2
    have x2 : w0.cell? ⟨(al.add (k * 4)).block, (al.add (k * 4)).off + 2, none⟩ = some (.slice AS (stAt L (k : Int)).stack.length cS) := by rw [← hal, add_row]; exact Bx.cell ⟨S2.out⟩ a3
    have x3 : w0.cell? ⟨(al.add (k * 4)).block, (al.add (k * 4)).off + 3, none⟩ = some (.slice ka kn kc) := by rw [← hal, add_row]; exact Bx.cell ⟨S2.out⟩ a4
    rw [hal] at hlk
    have A5 := Aside0.mk a5
    have A6 := Aside0.mk a6
    clear a1 a2 a3 a4 a5 a6 hst hal hk
    go_wp2
    obtain ⟨k1, k2⟩ := chain4_own (v0 := .bool (stAt L (k : Int)).reached) (v1 := .slice AL (stAt L (k : Int)).locals.length cL) (v2 := .slice AS (stAt L (k : Int)).stack.length cS) (v3 := .slice ka kn kc) B0.out (Nat.le_refl w.heap.size) G0.out
    refine bodyPost_ret (results_cell_row rfl _ _ _ _ _ _ _ rfl k2 Tryz.underlying83 rfl (by kernel_rfl)) rfl ?_
    first | exact ⟨B, _, _, _, _, _, rfl, own_chain4 A5.out G0.out (by decide), own_chain4 A6.out G0.out (by decide), k1⟩ | exact ⟨B, _, _, ⟨_, _, _, rfl⟩, own_chain4 A5.out G0.out (by decide), own_chain4 A6.out G0.out (by decide), k1⟩
set_option maxRecDepth 10000 in
set_option maxHeartbeats 1000000 in
theorem isref_any (t : Ty) (w : World) : Calls Tryz.prog 9 #[.agg #[.int .i64 t.kind, .string t.cls]] w fun e w' => e = .returned (.bool (isRef t)) ∧ Below w.heap.size w w' := by
  unfold isRef
  obtain ⟨k, c⟩ := t
  show Calls Tryz.prog 9 #[.agg #[.int .i64 k, .string c]] w fun e w' => e = .returned (.bool (k == 3 || k == 4 || k == 5)) ∧ Below w.heap.size w w'
  rcases h3 : (k == 3) with _ | _
  · rcases h4 : (k == 4) with _ | _
    · rcases h5 : (k == 5) with _ | _
      all_goals
        go_enter Tryz.func9, Tryz.ntmps9
        go_wp2
        go_ret
        exact ⟨rfl, balloc _ _⟩
    · go_enter Tryz.func9, Tryz.ntmps9
      go_wp2
      go_ret
      exact ⟨rfl, balloc _ _⟩
  · go_enter Tryz.func9, Tryz.ntmps9
    go_wp2
    go_ret
    exact ⟨rfl, balloc _ _⟩
end Go.Proofs.YtpdjkclacbgneaaGreat
namespace Go.Proofs.YtpdjkclacbgneaaGreat
open Go.RowKit Go.Shelf Go.Proofs.YtpdjkclacbgneaaGreatW.PrintWords Go.Proofs.YtpdjkclacbgneaaGreat.Pl

/-- A row of truth values in memory. -/
def BRow (w : World) (v : Value) (l : List Bool) : Prop := ∃ g, v = .slice (some ⟨g, 0, none⟩) l.length l.length ∧ w.heap[g]? = some (.cells (l.map Value.bool).toArray BT (0, 0))
theorem BRow.below {w w1 : World} {v : Value} {l : List Bool} (h : BRow w v l) (hb : Below w.heap.size w w1) : BRow w1 v l := by
  obtain ⟨g, h1, h2⟩ := h
  exact ⟨g, h1, blk_below h2 hb⟩
theorem blist_set (l : List Ty) (k : Nat) (x : Ty) (hx : l[k]? = some x) : (((l.take k).map isRef ++ List.replicate (l.length - k) false).map Value.bool).toArray.setIfInBounds k (.bool (isRef x)) = (((l.take (k + 1)).map isRef ++ List.replicate (l.length - (k + 1)) false).map Value.bool).toArray := by
  have hk := (List.getElem?_eq_some_iff.1 hx).1
  apply Array.ext'
  simp only [Array.toList_setIfInBounds, List.toList_toArray]
  obtain ⟨m, hm⟩ : ∃ m, l.length - k = m + 1 := ⟨l.length - k - 1, by omega⟩
  rw [show l.length - (k + 1) = m by omega, hm, List.take_add_one, hx, List.replicate_succ]
  simp only [List.map_append, List.map_cons, Option.toList_some, List.map_nil, List.append_assoc, List.singleton_append]
  rw [List.set_append_right _ _ (by simp [List.length_take]; omega)]
  simp [List.length_take, Nat.min_eq_left (Nat.le_of_lt hk)]
set_option maxRecDepth 10000 in
set_option maxHeartbeats 1000000 in
theorem refs_any {B : Nat} (w : World) (v : Value) (l : List Ty) (hv : OwnTy B w v l) (hl : l.length ≤ 100000) :
    Calls Tryz.prog 20 #[v] w fun e w' => ∃ u, e = .returned u ∧ BRow w' u (l.map isRef) ∧ Below w.heap.size w w' := by
  obtain ⟨A, c, rfl, hc, hC⟩ := hv.reads
  obtain ⟨n, hn⟩ : ∃ n, l.length = n := ⟨_, rfl⟩
  obtain ⟨W0, hW0⟩ : ∃ W0, w.alloc (.cells (madeCells #[.bool false] n) BT) = W0 := ⟨_, rfl⟩
  have hmk := run_make_bool n (by omega) w
  rw [hW0] at hmk
  have hb0 : Below w.heap.size w W0 := by rw [← hW0]; exact balloc _ _
  have hg0 : W0.heap[w.heap.size]? = some (.cells (((l.take 0).map isRef ++ List.replicate (n - 0) false).map Value.bool).toArray BT (0, 0)) := by
    rw [← hW0, blk_new, made_bools]
    rfl
  have HC := Aside0.mk hC
  have HN := Lib.hid hn
  have HB0 := Aside0.mk hb0
  have HG0 := Aside0.mk hg0
  have hn1 : n ≤ 100000 := by omega
  rw [hn] at hC hc ⊢
  have hmax := hC.2.1
  clear hv hC hb0 hg0 hl hn
  go_enter Tryz.func20, Tryz.ntmps20
  go_wp2_with fail
  clear hmk hW0
  go_loopw [11] (fun s11 wr => ∃ k : Nat, k ≤ n ∧ s11 = .int .i64 k ∧ Aside0 (Below w.heap.size w wr) ∧ Aside0 (wr.heap[w.heap.size]? = some (.cells (((l.take k).map isRef ++ List.replicate (n - k) false).map Value.bool).toArray BT (0, 0)))) (fun s11 _ => n - (intOf s11).toNat)
  case atStart => exact ⟨0, Nat.zero_le _, rfl, HB0, HG0⟩
  case round =>
    obtain ⟨k, hk, rfl, BW, GW⟩ := hrel
    have hk0 : (0 : Int) ≤ (k : Int) := by omega
    by_cases hlt : k < n
    · have hltz : (k : Int) < (n : Int) := by omega
      obtain ⟨x, hx⟩ : ∃ x, l[k]? = some x := ⟨_, List.getElem?_eq_getElem (by have := HN.out; omega)⟩
      have CT := cells_ty (HC.out)
      rw [HN.out] at CT
      have CT := CT.below BW.out
      obtain ⟨ad, rfl, _⟩ := CT.2 (by omega)
      have l0 := CT.at0 hlt (v := .int .i64 x.kind) (by rw [List.getD_eq_getElem?_getD, hx]; rfl)
      have l1 := CT.at_ (i := 1) hlt (by decide) (v := .string x.cls) (by rw [List.getD_eq_getElem?_getD, hx]; rfl)
      have HX := Aside0.mk hx
      have HLT := Lib.hid hlt
      obtain ⟨W1, hW1⟩ : ∃ W1, wr.alloc (.cells #[.int .i64 x.kind, .string x.cls] 38) = W1 := ⟨_, rfl⟩
      have B1 := Aside0.mk (bthen BW.out (by rw [← hW1]; exact balloc wr (.cells #[.int .i64 x.kind, .string x.cls] 38) : Below wr.heap.size wr W1))
      have hg1 : W1.heap[wr.heap.size]? = some (.cells #[.int .i64 x.kind, .string x.cls] 38 (0, 0)) := by rw [← hW1]; exact blk_new _ _
      have G1 := Aside0.mk (by rw [← hW1]; exact blk_alloc GW.out _ : W1.heap[w.heap.size]? = some (.cells (((l.take k).map isRef ++ List.replicate (n - k) false).map Value.bool).toArray BT (0, 0)))
      have y0 : W1.cell? ⟨wr.heap.size, 0, none⟩ = some (.int .i64 x.kind) := Bx.cell ⟨hg1⟩ (j := 0) rfl
      have y1 : W1.cell? ⟨wr.heap.size, 1, none⟩ = some (.string x.cls) := Bx.cell ⟨hg1⟩ (j := 1) rfl
      clear hx CT hlt hg1
      go_wp2_with fail
      refine (isref_any x W1).mono ?_
      rintro e w2 ⟨rfl, hb2⟩
      have B2 := Aside0.mk (bthen B1.out hb2)
      have G2 := Aside0.mk (blk_below G1.out hb2)
      have hfz : w2.frozen? ⟨w.heap.size, k, none⟩ = false := by unfold World.frozen?; rw [G2.out]; simp
      have hz0 : w2.cell? ⟨w.heap.size, k, none⟩ = some (.bool false) := by
        refine Bx.cell ⟨G2.out⟩ ?_
        have := HN.out
        have := HLT.out
        simp [List.getElem?_append, List.length_take, Nat.min_eq_left (show k ≤ l.length by omega)]
        rw [List.getElem?_replicate, if_pos (by omega)]
      clear l0 l1 y0 y1 hb2 hW1
      go_wp2
      go_roundw
      case rel =>
        refine ⟨k + 1, HLT.out, by go_num, ⟨set_low B2.out (Nat.le_refl _) _⟩, ⟨?_⟩⟩
        rw [heap_set G2.out]
        have := blist_set l k x HX.out
        rw [HN.out] at this
        rw [this]
      case measure => have := HLT.out; simp [intOf]; omega
    · have hltz : ¬ (k : Int) < (n : Int) := by omega
      have hkn : k = n := by omega
      subst hkn
      clear hlt
      go_wp2
      go_ret
      refine ⟨_, rfl, ⟨w.heap.size, ?_, ?_⟩, BW.out⟩
      · rw [List.length_map, HN.out]; rfl
      · rw [GW.out, List.take_of_length_le (by have := HN.out; omega)]
        simp
set_option maxRecDepth 10000 in
set_option maxHeartbeats 1000000 in
theorem depth_any (w : World) (mp : Nat) (L : List St) (pc : Int) (H : MapsIs w mp L) :
    Calls Tryz.prog 8 #[.pointer (some ⟨mp, 0, none⟩), .string nMain, .string nmain, .int .i64 pc] w fun e w' => e = .returned (.int .i64 (if (stAt L pc).reached then ((stAt L pc).stack.length : Int) else -1)) ∧ Below w.heap.size w w' := by
  have HH := Aside0.mk H
  clear H
  obtain ⟨s, hs⟩ : ∃ s, stAt L pc = s := ⟨_, rfl⟩
  have SA := Aside0.mk (state_any w mp L pc HH.out)
  rw [hs] at SA ⊢
  clear hs
  go_enter Tryz.func8, Tryz.ntmps8
  go_wp2_with fail
  refine SA.out.mono ?_
  rintro e w1 ⟨B, Lv, Sv, ka, kn, kc, rfl, hL, hS, hb1⟩
  obtain ⟨AL, cL, rfl⟩ := hL.slice
  obtain ⟨AS, cS, rfl⟩ := hS.slice
  obtain ⟨W2, hW2⟩ : ∃ W2, (w1.alloc (.cells #[.bool s.reached, .slice AL s.locals.length cL, .slice AS s.stack.length cS, .slice ka kn kc] 83)) = W2 := ⟨_, rfl⟩
  have B2 := Aside0.mk (bthen hb1 (by rw [← hW2]; exact balloc _ _ : Below w1.heap.size w1 W2))
  have hg : W2.heap[w1.heap.size]? = some (.cells #[.bool s.reached, .slice AL s.locals.length cL, .slice AS s.stack.length cS, .slice ka kn kc] 83 (0, 0)) := by rw [← hW2]; exact blk_new _ _
  obtain ⟨g0, g1, g2, g3, gf⟩ := cells4 hg
  clear hL hS hb1 hg
  obtain ⟨re, lo, sk⟩ := s
  cases re
  · go_wp2
    go_ret
    exact ⟨rfl, B2.out⟩
  · go_wp2
    go_ret
    exact ⟨rfl, B2.out⟩
/-- What At leaves. -/
def AtPost (w : World) (s : St) (e : Ending) (w' : World) : Prop :=
  ∃ v u, e = .returned (.tuple #[v, u, .bool s.reached]) ∧ (s.reached = true → BRow w' v (s.locals.map isRef) ∧ BRow w' u (s.stack.map isRef)) ∧ Below w.heap.size w w'
set_option maxRecDepth 10000 in
set_option maxHeartbeats 1000000 in
theorem at_any (w : World) (mp : Nat) (L : List St) (pc : Int) (H : MapsIs w mp L) (hL : (stAt L pc).locals.length ≤ 1000) (hS : (stAt L pc).stack.length ≤ 1000) :
    Calls Tryz.prog 7 #[.pointer (some ⟨mp, 0, none⟩), .string nMain, .string nmain, .int .i64 pc] w (AtPost w (stAt L pc)) := by
  have HH := Aside0.mk H
  clear H
  obtain ⟨s, hs⟩ : ∃ s, stAt L pc = s := ⟨_, rfl⟩
  have SA := Aside0.mk (state_any w mp L pc HH.out)
  rw [hs] at SA hL hS ⊢
  have HLL := Lib.hid hL
  have HSL := Lib.hid hS
  clear hs hL hS
  go_enter Tryz.func7, Tryz.ntmps7
  go_wp2_with fail
  refine SA.out.mono ?_
  rintro e w1 ⟨B, Lv, Sv, ka, kn, kc, rfl, hL, hS, hb1⟩
  obtain ⟨AL, cL, rfl⟩ := hL.slice
  obtain ⟨AS, cS, rfl⟩ := hS.slice
  obtain ⟨W2, hW2⟩ : ∃ W2, (w1.alloc (.cells #[.bool s.reached, .slice AL s.locals.length cL, .slice AS s.stack.length cS, .slice ka kn kc] 83)) = W2 := ⟨_, rfl⟩
  have hb2 : Below w1.heap.size w1 W2 := by rw [← hW2]; exact balloc _ _
  have B2 := Aside0.mk (bthen hb1 hb2)
  have hg : W2.heap[w1.heap.size]? = some (.cells #[.bool s.reached, .slice AL s.locals.length cL, .slice AS s.stack.length cS, .slice ka kn kc] 83 (0, 0)) := by rw [← hW2]; exact blk_new _ _
  obtain ⟨g0, g1, g2, g3, gf⟩ := cells4 hg
  obtain ⟨gs, hgs⟩ : ∃ gs, w1.heap.size = gs := ⟨_, rfl⟩
  rw [hgs] at g0 g1 g2 g3 gf
  have HL := Aside0.mk (hL.below hb2)
  have HS := Aside0.mk (hS.below hb2)
  clear hL hS hb1 hb2 hg
  obtain ⟨re, lo, sk⟩ := s
  cases re
  · go_wp2
    go_ret3
    exact ⟨_, _, rfl, fun h => (by cases h), B2.out⟩
  have z1d : W2.drew.cell? ⟨gs, 1, none⟩ = some (.slice AL lo.length cL) := g1
  have z2d : W2.drew.cell? ⟨gs, 2, none⟩ = some (.slice AS sk.length cS) := g2
  have HLd : Aside0 (OwnTy B W2.drew (.slice AL lo.length cL) lo) := ⟨HL.out.below (below_drew (Below.refl _ _))⟩
  have HSd : Aside0 (OwnTy B W2.drew (.slice AS sk.length cS) sk) := ⟨HS.out.below (below_drew (Below.refl _ _))⟩
  have B2d := Aside0.mk (below_drew B2.out)
  go_wp2_with fail
  clear hgs hW2
  go_region_held3 (fun w' => w'.cell? ⟨gs, 1, none⟩ = some (.slice AL lo.length cL) ∧ w'.cell? ⟨gs, 2, none⟩ = some (.slice AS sk.length cS)) (first | (with_reducible exact ⟨z1d, z2d⟩) | (with_reducible exact ⟨y1, y2⟩) | (with_reducible exact ⟨x1, x2⟩)) (first
    | (go_at_call 20; (with_reducible refine (refs_any W2.drew (.slice AL lo.length cL) lo HLd.out (Nat.le_trans HLL.out (by decide))).mono ?_); rintro e w3 ⟨v1, rfl, hv1, hb1⟩; have y1 := pw_cell_below hb1 z1d; have y2 := pw_cell_below hb1 z2d; have V1 := Aside0.mk hv1; have B3 := Aside0.mk hb1; clear hv1 hb1)
    | (go_at_call 20; (with_reducible refine (refs_any w3 (.slice AS sk.length cS) sk (HSd.out.below B3.out) (Nat.le_trans HSL.out (by decide))).mono ?_); rintro e w4 ⟨v2, rfl, hv2, hb2⟩; have x1 := pw_cell_below hb2 y1; have x2 := pw_cell_below hb2 y2; have V2 := Aside0.mk hv2; have B4 := Aside0.mk hb2; clear hv2 hb2))
  all_goals
    go_wp2
    go_ret3
    exact ⟨_, _, rfl, fun _ => ⟨V1.out.below B4.out, V2.out⟩, bthen (bthen B2d.out B3.out) B4.out⟩
end Go.Proofs.YtpdjkclacbgneaaGreat
namespace Go.Proofs.YtpdjkclacbgneaaGreat
open Go.RowKit Go.Shelf Go.Proofs.YtpdjkclacbgneaaGreatW.PrintWords Go.Proofs.YtpdjkclacbgneaaGreat.Pl

theorem own_map {B : Nat} {w : World} {v : Value} {l : List Ty} {b c : Nat} {es : Array MapEntry} (h : OwnTy B w v l) (hb : w.heap[b]? = some (.map es c)) : v.ownBlock = none ∨ v.ownBlock ≠ some b := by
  obtain ⟨_, h | ⟨g, cap, cs, rfl, _, hg, _⟩⟩ := h
  · left
    obtain ⟨h, _⟩ := h
    rw [h]
    rfl
  · right
    intro e
    have e : some g = some b := e
    cases e
    rw [hb] at hg
    cases hg
theorem map_below {wB w : World} {b : Nat} (o : Obj) (hb : Below wB.heap.size wB w) (hl : wB.heap.size ≤ b) : Below wB.heap.size wB { w with heap := w.heap.setIfInBounds b o } := by
  have hg := grown_set w b o
  exact pw_below_grown hb _ hb.size hg (fun k hk => by cases hk; exact hl)
theorem StRow.map {w : World} {b : Nat} {v : Value} {L : List St} {es : Array MapEntry} {c : Nat} (o : Obj) (h : StRow w v L) (hb : w.heap[b]? = some (.map es c)) : StRow { w with heap := w.heap.setIfInBounds b o } v L := by
  have hg := grown_set w b o
  obtain ⟨lb, cs, h1, h2, h3, h4⟩ := h
  have hne : lb ≠ b := fun e => by rw [e, hb] at h2; cases h2
  refine ⟨lb, cs, h1, ?_, h3, fun i st hi => ?_⟩
  · show (w.heap.setIfInBounds b o)[lb]? = _
    rw [Array.getElem?_setIfInBounds, if_neg (Ne.symm hne)]
    exact h2
  · obtain ⟨B, Lv, Sv, ka, kn, kc, a1, a2, a3, a4, a5, a6⟩ := h4 i st hi
    exact ⟨B, Lv, Sv, ka, kn, kc, a1, a2, a3, a4, World.ownsRow.kept a5 hg (own_map a5 hb), World.ownsRow.kept a6 hg (own_map a6 hb)⟩
/-- A store into the map of Maps. -/
theorem MapsIs.laid {w : World} {mp b c lb : Nat} {L : List St} (h1 : w.heap[mp]? = some (.cells #[.map (some b)] 71 (0, 0))) (hb : w.heap[b]? = some (.map #[] c)) (h : StRow w (.slice (some ⟨lb, 0, none⟩) L.length L.length) L) (hL : L.length ≤ 100000) :
    MapsIs { w with heap := w.heap.setIfInBounds b (.map #[{ key := rKey, val := .slice (some ⟨lb, 0, none⟩) L.length L.length, born := c }] (c + 1)) } mp L := by
  have hne : mp ≠ b := fun e => by rw [e, hb] at h1; cases h1
  refine ⟨b, c, c + 1, _, ?_, ?_, h.map _ hb, hL⟩
  · show (w.heap.setIfInBounds b _)[mp]? = _
    rw [Array.getElem?_setIfInBounds, if_neg (Ne.symm hne)]
    exact h1
  · show (w.heap.setIfInBounds b _)[b]? = _
    rw [Array.getElem?_setIfInBounds, if_pos rfl, if_pos (blk_lt hb)]
/-- At the head of the classes' round n: Main, which alone has a method, is the third. -/
structure RInv (wB w1 w : World) (mp : Nat) (L : List St) (n : Nat) : Prop where
  lo : n < 3 → Below w1.heap.size w1 w
  hi : 3 ≤ n → Below wB.heap.size wB w ∧ MapsIs w mp L
set_option maxRecDepth 100000 in
set_option maxHeartbeats 4000000 in
theorem of_any (wB : World) (pb : Nat) (p : Pg) (H : ProgIs wB pb p) (HA : AllOk p) (n0 n1 : Nm) (hns : p.h.map (·.1) = [n0, n1, nMain]) (h0 : (clsOf p n0).methods = []) (h1 : (clsOf p n1).methods = []) (m : Mt) (h2 : (clsOf p nMain).methods = [m]) (hmn : m.name = nmain)
    (k : Nat) (L : List St) (Ls : List (List Int)) (hv : vmethod p k nMain nmain = some (0, L)) (hk : lmethod p k nMain nmain = some (0, Ls)) (hL : L.length ≤ 100000) :
    Calls Tryz.prog 6 #[.pointer (some ⟨pb, 0, none⟩)] wB fun e w' => ∃ mp, e = .returned (.tuple #[.pointer (some ⟨mp, 0, none⟩), .int .i64 0]) ∧ MapsIs w' mp L ∧ Below wB.heap.size wB w' := by
  have HH := Aside0.mk H
  have HHA := Aside0.mk HA
  have HLL := Lib.hid hL
  have HVM := Aside0.mk hv
  have HLM := Aside0.mk hk
  have HME := Aside0.mk (And.intro h0 (And.intro h1 (And.intro h2 hmn)))
  have hmm := @run_makeMap Tryz.prog
  obtain ⟨w0, hw0⟩ : ∃ w0, (wB.alloc (.map #[] 0)).alloc (.cells #[.map (some wB.heap.size)] 71) = w0 := ⟨_, rfl⟩
  have hb0 : Below wB.heap.size wB w0 := by rw [← hw0]; exact bthen (balloc _ _) (balloc _ _)
  have hm0 : w0.heap[wB.heap.size]? = some (.map #[] 0) := by rw [← hw0]; exact blk_alloc (blk_new wB _) _
  have hq0 : w0.heap[wB.heap.size + 1]? = some (.cells #[.map (some wB.heap.size)] 71 (0, 0)) := by rw [← hw0]; exact blk_second wB _ _
  obtain ⟨_, ⟨g, hg, hI⟩, _⟩ := H.below hb0
  have HI := Aside0.mk hI
  have HB0 := Aside0.mk hb0
  have HM0 := Aside0.mk hm0
  have HQ0 := Aside0.mk hq0
  have NA := Aside0.mk (names_any g p.h w0 HI.out (by have := congrArg List.length hns; simp at this; omega))
  rw [hns] at NA
  clear H HA hv hk hL hb0 hm0 hq0 hI h0 h1 h2 hmn hns
  go_enter Tryz.func6, Tryz.ntmps6
  go_wp2_with fail
  refine (hier_any pb g w0 hg).mono ?_
  rintro e0 w' ⟨rfl, rfl⟩
  go_wp2_with fail
  refine NA.out.mono ?_
  rintro e0 w1 ⟨v1, rfl, hr1, hb1⟩
  obtain ⟨ad, cap, rfl, hmax, hcells⟩ := hr1.cells (Nat.zero_lt_succ _)
  have HC := Aside0.mk hcells
  have HB1 := Aside0.mk (bthen HB0.out hb1)
  have HM1 := Aside0.mk (blk_below HM0.out hb1)
  have HQ1 := Aside0.mk (blk_below HQ0.out hb1)
  clear hr1 hb1 hg hcells HM0 HQ0 HB0 hmm hw0
  have hlen3 : ([n0, n1, nMain] : List Nm).length = 3 := rfl
  rw [hlen3] at hmax ⊢
  go_wp2_with fail
  go_loopw [20] (fun s20 wr => ∃ kk : Nat, kk ≤ 3 ∧ s20 = .int .i64 kk ∧ Aside0 (RInv wB w1 wr (wB.heap.size + 1) L kk)) (fun s20 _ => 3 - (intOf s20).toNat)
  case atStart => exact ⟨0, Nat.zero_le _, rfl, ⟨⟨fun _ => Below.refl _ _, fun h => absurd h (by decide)⟩⟩⟩
  case round =>
    obtain ⟨kk, hk, rfl, HR⟩ := hrel
    have hk0 : (0 : Int) ≤ (kk : Int) := by omega
    by_cases hlt : kk < 3
    · have hltz : (kk : Int) < 3 := by omega
      obtain ⟨x, hx⟩ : ∃ x, ([n0, n1, nMain] : List Nm)[kk]? = some x := ⟨_, List.getElem?_eq_getElem (by simpa using hlt)⟩
      have hxm : ((clsOf p x).methods = [] ∧ kk < 2) ∨ ((clsOf p x).methods = [m] ∧ kk = 2 ∧ x = nMain) := by
        obtain ⟨e0, e1, e2, _⟩ := HME.out
        rcases kk with _ | _ | _ | kk
        · cases hx; exact .inl ⟨e0, by omega⟩
        · cases hx; exact .inl ⟨e1, by omega⟩
        · cases hx; exact .inr ⟨e2, rfl, rfl⟩
        · omega
      have BW := Aside0.mk (HR.out.lo hlt)
      have hl := pw_cell_below BW.out (HC.out kk x hx)
      have BB := Aside0.mk (bthen HB1.out BW.out)
      have HLT := Lib.hid hlt
      clear hlt hx HR
      go_wp2_with fail
      refine (class_at pb p x wB wr HH.out BB.out).mono ?_
      rintro e2 w3 ⟨cs, rfl, hcl, hb3⟩
      obtain ⟨A0, e0, A1, e1', A2, e2', rfl, _, _, _, r2⟩ := clK_open hcl
      obtain ⟨mc, CM0, KM⟩ := cells_of default r2
      obtain ⟨ms, hms⟩ : ∃ ms, (clsOf p x).methods = ms := ⟨_, rfl⟩
      have HMS := Lib.hid hms
      rw [hms] at CM0 KM hxm ⊢
      have HXM := Aside0.mk hxm
      have hmm := CM0.1
      have CM0 : Aside0 (Cells wB A2 ms.length 8 mc) := ⟨CM0⟩
      have KM := Aside0.mk KM
      obtain ⟨w4, hw4⟩ : ∃ w4, w3.alloc (.cells #[.string (clsOf p x).name, .string (clsOf p x).super, .slice A0 (clsOf p x).pool.length e0, .slice A1 (clsOf p x).fields.length e1', .slice A2 ms.length e2'] 45) = w4 := ⟨_, rfl⟩
      have hb4 : Below w3.heap.size w3 w4 := by rw [← hw4]; exact balloc _ _
      have hc4 : w4.heap[w3.heap.size]? = some (.cells #[.string (clsOf p x).name, .string (clsOf p x).super, .slice A0 (clsOf p x).pool.length e0, .slice A1 (clsOf p x).fields.length e1', .slice A2 ms.length e2'] 45 (0, 0)) := by rw [← hw4]; exact blk_new _ _
      obtain ⟨_, _, _, _, cc4⟩ := Bx.five ⟨hc4⟩
      have B4 := Aside0.mk (bthen BW.out (bthen hb3 hb4))
      clear hcl hb3 hb4 r2 hms hc4 hl hxm
      go_wp2_with fail
      clear hw4 cc4
      go_loopw [33] (fun s33 wr => ∃ j : Nat, j ≤ ms.length ∧ s33 = .int .i64 j ∧ Aside0 (RInv wB w1 wr (wB.heap.size + 1) L (kk + j))) (fun s33 _ => ms.length - (intOf s33).toNat)
      case atStart => exact ⟨0, Nat.zero_le _, rfl, ⟨⟨fun _ => B4.out, fun h => absurd HLT.out (by omega)⟩⟩⟩
      case round =>
        clear B4 BW BB
        obtain ⟨j, hj, rfl, HR⟩ := hrel
        have hj0 : (0 : Int) ≤ (j : Int) := by omega
        by_cases hjl : j < ms.length
        · have hjz : (j : Int) < (ms.length : Int) := by omega
          obtain ⟨hm1, hk2, rfl⟩ : ms = [m] ∧ kk = 2 ∧ x = nMain := by
            rcases HXM.out with ⟨h1, _⟩ | h
            · rw [h1] at hjl; exact absurd hjl (Nat.not_lt_zero _)
            · exact h
          have hj1 : j = 0 := by rw [hm1] at hjl; simpa using hjl
          have HK2 := Lib.hid hk2
          have HM1' := Lib.hid hm1
          have HJ0 := Lib.hid hj1
          have hms1 : Hid (ms.length = 1) := Lib.hid (by rw [hm1]; rfl)
          have hgd : ms.getD j default = m := by rw [hm1, hj1]; rfl
          have HJL := Lib.hid hjl
          clear hk2 hj1 hm1
          have BW := Aside0.mk (HR.out.lo (by have := HK2.out; have := HJ0.out; omega))
          have BB := Aside0.mk (bthen HB1.out BW.out)
          have CM3 : Cells wr A2 ms.length 8 mc := CM0.out.below BB.out
          obtain ⟨ae, rfl, _⟩ := CM3.2 (by omega)
          have hm0 := KM.out j HJL.out
          rw [hgd] at hm0
          obtain ⟨B0, d0, B1, d1, B2, d2, hmc, _⟩ := mtK_open hm0
          have x0 := CM3.at0 HJL.out (v := .string m.name) (by rw [hmc]; rfl)
          have x1 := CM3.at_ (i := 1) HJL.out (by decide) (v := .slice B0 m.params.length d0) (by rw [hmc]; rfl)
          have x2 := CM3.at_ (i := 2) HJL.out (by decide) (v := .int .i64 m.ret.kind) (by rw [hmc]; rfl)
          have x3 := CM3.at_ (i := 3) HJL.out (by decide) (v := .string m.ret.cls) (by rw [hmc]; rfl)
          have x4 := CM3.at_ (i := 4) HJL.out (by decide) (v := .int .i64 m.locals) (by rw [hmc]; rfl)
          have x5 := CM3.at_ (i := 5) HJL.out (by decide) (v := .int .i64 m.stack) (by rw [hmc]; rfl)
          have x6 := CM3.at_ (i := 6) HJL.out (by decide) (v := .slice B1 m.code.length d1) (by rw [hmc]; rfl)
          have x7 := CM3.at_ (i := 7) HJL.out (by decide) (v := .slice B2 m.handlers.length d2) (by rw [hmc]; rfl)
          have hmn := HME.out.2.2.2
          rw [hmn] at x0
          obtain ⟨w5, hw5⟩ : ∃ w5, wr.alloc (.cells #[.string nmain, .slice B0 m.params.length d0, .int .i64 m.ret.kind, .string m.ret.cls, .int .i64 m.locals, .int .i64 m.stack, .slice B1 m.code.length d1, .slice B2 m.handlers.length d2] 41) = w5 := ⟨_, rfl⟩
          have hb5 : Below wr.heap.size wr w5 := by rw [← hw5]; exact balloc _ _
          have hm5 : w5.heap[wr.heap.size]? = some (.cells #[.string nmain, .slice B0 m.params.length d0, .int .i64 m.ret.kind, .string m.ret.cls, .int .i64 m.locals, .int .i64 m.stack, .slice B1 m.code.length d1, .slice B2 m.handlers.length d2] 41 (0, 0)) := by rw [← hw5]; exact blk_new _ _
          have y0 : w5.cell? ⟨wr.heap.size, 0, none⟩ = some (.string nmain) := Bx.cell ⟨hm5⟩ (j := 0) rfl
          have hfm : (clsOf p nMain).methods.find? (fun m => decide (m.name = nmain)) = some m := by
            rw [HME.out.2.2.1, List.find?_cons, hmn]
            rfl
          obtain ⟨L1, hL1, hMA⟩ := lmethod_calls nMain nmain (HH.out.below (bthen BB.out hb5)) HHA.out hfm HLM.out
          have hL2 : L1 = L := by
            have := (hL1 rfl).1
            rw [HVM.out] at this
            simpa using this.symm
          subst hL2
          have MA := Aside0.mk hMA
          clear hMA hL1
          have B5 := Aside0.mk (bthen BW.out hb5)
          have M5 := Aside0.mk hm5
          obtain ⟨gm, hgm⟩ : ∃ gm, wr.heap.size = gm := ⟨_, rfl⟩
          rw [hgm] at M5 y0
          clear CM3 hm0 hmc hb5 hm5 hjl hfm hmn HR hgd
          go_wp2_with fail
          refine MA.out.mono ?_
          rintro e3 w6 ⟨v6, rfl, hb6, hres, _⟩
          have hst := StRow.of (hres rfl)
          obtain ⟨lb, cs6, rfl, hs6⟩ := hst
          have HST := Aside0.mk (StRow.of (hres rfl))
          have B6 := Aside0.mk (bthen B5.out hb6)
          have z0 : w6.cell? ⟨gm, 0, none⟩ = some (.string nmain) := pw_cell_below hb6 y0
          have M1 := Aside0.mk (blk_below (HM1.out) B6.out)
          have Q1 := Aside0.mk (blk_below (HQ1.out) B6.out)
          have q0 : w6.cell? ⟨wB.heap.size + 1, 0, none⟩ = some (.map (some wB.heap.size)) := Bx.cell ⟨Q1.out⟩ (j := 0) rfl
          clear x0 x1 x2 x3 x4 x5 x6 x7 y0 hw5 hb6 hs6 hres MA
          obtain ⟨nl, hnl⟩ : ∃ nl, L1.length = nl := ⟨_, rfl⟩
          rw [hnl]
          have HNL := Lib.hid hnl
          clear hnl
          have q0' : ({ heap := w6.heap, tape := w6.tape, drawn := w6.drawn + 1, os := w6.os, output := w6.output } : World).cell? ⟨wB.heap.size + 1, 0, none⟩ = some (.map (some wB.heap.size)) := q0
          have z0' : ({ heap := w6.heap, tape := w6.tape, drawn := w6.drawn + 1, os := w6.os, output := w6.output } : World).cell? ⟨gm, 0, none⟩ = some (.string nmain) := z0
          obtain ⟨W7, hW7⟩ : ∃ W7 : World, ({ w6.drew with heap := w6.drew.heap.setIfInBounds wB.heap.size (.map #[{ key := rKey, val := .slice (some ⟨lb, 0, none⟩) nl nl, born := 0 }] (0 + 1)) } : World) = W7 := ⟨_, rfl⟩
          have hr3 := rput (w := w6.drew) (.slice (some ⟨lb, 0, none⟩) nl nl) M1.out
          rw [hW7] at hr3
          unfold rKey at hr3
          have F7 : Aside0 (Below wB.heap.size wB W7 ∧ MapsIs W7 (wB.heap.size + 1) L1) := ⟨by
            rw [← hW7, ← HNL.out]
            have hst := HST.out
            refine ⟨map_below _ (below_drew (bthen HB1.out B6.out)) (Nat.le_refl _), MapsIs.laid (w := w6.drew) Q1.out M1.out ?_ HLL.out⟩
            exact hst.below (below_drew (Below.refl _ _))⟩
          clear hW7 HST
          go_wp2
          go_still_tail 9, (by kernel_rfl)
          go_wp2
          go_roundw
          case rel => exact ⟨j + 1, HJL.out, by go_num, ⟨⟨fun h => absurd h (by have := HK2.out; have := HJ0.out; omega), fun _ => F7.out⟩⟩⟩
          case measure => have := HJL.out; simp [intOf]; omega
        · have hjz : ¬ (j : Int) < (ms.length : Int) := by omega
          have HN : Aside0 (RInv wB w1 wr (wB.heap.size + 1) L (kk + 1)) := by
            have hjm : j = ms.length := by omega
            subst hjm
            rcases HXM.out with ⟨h1, h2⟩ | ⟨h1, h2, _⟩
            · rw [h1] at HR
              have hr : RInv wB w1 wr (wB.heap.size + 1) L kk := HR.out
              exact ⟨⟨fun _ => hr.lo (by omega), fun h => absurd h (by omega)⟩⟩
            · rw [h1] at HR
              exact HR
          clear HR
          go_wp2
          go_roundw
          case rel => exact ⟨kk + 1, HLT.out, by go_num, HN⟩
          case measure => have := HLT.out; simp [intOf]; omega
    · have hltz : ¬ (kk : Int) < 3 := by omega
      obtain ⟨hB, hM⟩ := HR.out.hi (by omega)
      have FB := Aside0.mk hB
      have FM := Aside0.mk hM
      clear hB hM HR hlt
      go_wp2
      go_ret2
      exact ⟨_, rfl, FM.out, FB.out⟩
end Go.Proofs.YtpdjkclacbgneaaGreat
namespace Go.Proofs.YtpdjkclacbgneaaGreat
open Go.RowKit Go.Shelf Go.Proofs.YtpdjkclacbgneaaGreatW.PrintWords Go.Proofs.YtpdjkclacbgneaaGreat.Pl

theorem fields_G (h : Hier) (loc stk : Int) (code : List In) (pool : List Cn) (n : Nm) : (clsOf (progOf h (ofG loc stk code pool)) n).fields.length ≤ 8 := by
  have h1 : (progOf h (ofG loc stk code pool)).cs = [(nObject, cObject), (nFault, cFault), (nMain, ⟨nMain, nil, pool, [], [⟨nmain, [], ⟨0, nil⟩, loc, stk, code, []⟩]⟩)] := by kernel_rfl
  rcases look_mem (default : Cl) (progOf h (ofG loc stk code pool)).cs n with h3 | ⟨k, h3⟩
  · unfold clsOf
    rw [h3]
    exact Nat.zero_le _
  · unfold clsOf
    rw [h1] at h3 ⊢
    simp only [List.mem_cons, List.not_mem_nil, or_false, Prod.mk.injEq] at h3
    rcases h3 with ⟨_, h⟩ | ⟨_, h⟩ | ⟨_, h⟩ <;> rw [h]
    · exact Nat.zero_le _
    · show 1 ≤ 8
      decide
    · exact Nat.zero_le _
theorem link_mainF (loc stk : Int) (code : List In) (pool : List Cn) (B : Option Addr) (w : World) (hC : clK.C w B 1 (ofG loc stk code pool)) : Calls Tryz.prog 5 #[.slice B 1 1] w fun e w' => ∃ pp, e = .returned (.tuple #[.pointer pp, .int .i64 (Pl.link (ofG loc stk code pool)).1]) ∧ ((Pl.link (ofG loc stk code pool)).1 = 0 → ∃ pb, pp = some ⟨pb, 0, none⟩ ∧ ProgIs w' pb (Pl.link (ofG loc stk code pool)).2) ∧ Below w.heap.size w w' := by
  refine (link_any (ofG loc stk code pool) B 1 w hC (by show 1 ≤ 900; decide) (fun _ h pb cls name w H => field_any pb _ cls name w H (fields_G h loc stk code pool))).mono ?_
  rintro e w' ⟨pp, h1, h2, _, h4⟩
  exact ⟨pp, h1, h2, h4⟩
def codeN : List In := [⟨3, 0⟩, ⟨6, 0⟩, ⟨33, 0⟩]
def pN : Pg := (Pl.link (ofG 2 1 codeN [])).2
def mN : Mt := ⟨nmain, [], ⟨0, nil⟩, 2, 1, codeN, []⟩
def LN : List St := [⟨true, [refT nMain, kindT 6], []⟩, ⟨true, [refT nMain, kindT 6], [kindT 5]⟩, ⟨true, [refT nMain, kindT 6], []⟩]
theorem linkN : (Pl.link (ofG 2 1 codeN [])).1 = 0 := by decide +kernel
theorem okN : okB pN = true := by decide +kernel
theorem namesN : pN.h.map (·.1) = [nObject, nFault, nMain] := by decide +kernel
theorem methN0 : (clsOf pN nObject).methods = [] := by decide +kernel
theorem methN1 : (clsOf pN nFault).methods = [] := by decide +kernel
theorem methN2 : (clsOf pN nMain).methods = [mN] := by decide +kernel
theorem vmN : vmethod pN 100 nMain nmain = some (0, LN) := by decide +kernel
theorem lmN : lmethod pN 100 nMain nmain = some (0, [[], [], []]) := by decide +kernel
theorem madeN (w : World) : clK.C (((w.alloc (.cells (fli codeN).toArray 29)).alloc (.cells #[.string nmain, .slice none 0 0, .int .i64 0, .string nil, .int .i64 2, .int .i64 1, .slice (some ⟨w.heap.size, 0, none⟩) 3 3, .slice none 0 0] 41)).alloc (.cells #[.string nMain, .string nil, .slice none 0 0, .slice none 0 0, .slice (some ⟨w.heap.size + 1, 0, none⟩) 1 1] 45)) (some ⟨w.heap.size + 1 + 1, 0, none⟩) 1 (ofG 2 1 codeN []) := by
  obtain ⟨A, c, hv, hc, hC⟩ := (OwnIn.lit w w.heap.size codeN (by decide) (Nat.le_refl _)).reads
  cases hv
  have := rows_mainG (loc := 2) (stk := 1) (pool := []) (P := none) (d := 0) hc hC (Nat.le_refl _) (row_none _ _)
  rwa [World.size_alloc] at this
set_option maxRecDepth 100000 in
set_option maxHeartbeats 1000000 in
theorem known10_any (w : World) : Calls Tryz.prog 4 #[] w fun e w' => e = .returned (.bool true) ∧ Below w.heap.size w w' := by
  have LK := Aside0.mk (link_mainF 2 1 codeN [] _ _ (madeN w))
  rw [linkN] at LK
  have hb0 := Aside0.mk (bthen (balloc w (.cells (fli codeN).toArray 29)) (bthen (balloc _ (.cells #[.string nmain, .slice none 0 0, .int .i64 0, .string nil, .int .i64 2, .int .i64 1, .slice (some ⟨w.heap.size, 0, none⟩) 3 3, .slice none 0 0] 41)) (balloc _ (.cells #[.string nMain, .string nil, .slice none 0 0, .slice none 0 0, .slice (some ⟨w.heap.size + 1, 0, none⟩) 1 1] 45))))
  go_enter Tryz.func4, Tryz.ntmps4
  go_wp2_with fail
  refine LK.out.mono ?_
  rintro e1 w1 ⟨pp, rfl, hp, hb1⟩
  obtain ⟨pb, rfl, hP⟩ := hp trivial
  have B1 := Aside0.mk (bthen hb0.out hb1)
  have OF := Aside0.mk (of_any w1 pb pN hP (okB_all okN).1 nObject nFault namesN methN0 methN1 mN methN2 rfl 100 LN _ vmN lmN (by decide))
  clear hp hb1 hP hb0 LK
  go_wp2_with fail
  refine OF.out.mono ?_
  rintro e2 w2 ⟨mp, rfl, hM, hb2⟩
  have B2 := Aside0.mk (bthen B1.out hb2)
  have HM := Aside0.mk hM
  have AT := Aside0.mk (at_any w2 mp LN 1 hM (by decide) (by decide))
  clear hM hb2 OF
  go_wp2_with fail
  refine AT.out.mono ?_
  rintro e3 w3 ⟨v, u, rfl, hvu, hb3⟩
  have B3 := Aside0.mk (bthen B2.out hb3)
  have hr : (stAt LN 1).reached = true := by decide
  obtain ⟨⟨g1, rfl, hg1⟩, ⟨g2, rfl, hg2⟩⟩ := hvu hr
  have e1 : (stAt LN 1).locals.map isRef = [true, false] := by decide
  have e2 : (stAt LN 1).stack.map isRef = [true] := by decide
  rw [e1] at hg1 ⊢
  rw [e2] at hg2 ⊢
  rw [hr]
  have l0 : w3.cell? ⟨g1, 0, none⟩ = some (.bool true) := Bx.cell ⟨hg1⟩ (j := 0) rfl
  have l1 : w3.cell? ⟨g1, 1, none⟩ = some (.bool false) := Bx.cell ⟨hg1⟩ (j := 1) rfl
  have s0 : w3.cell? ⟨g2, 0, none⟩ = some (.bool true) := Bx.cell ⟨hg2⟩ (j := 0) rfl
  have DE := Aside0.mk (depth_any w3 mp LN 9 (HM.out.below hb3))
  have e3 : (stAt LN 9).reached = false := by decide
  rw [e3] at DE
  clear hvu hb3 hg1 hg2 e1 e2 e3 hr AT
  go_wp2_with fail
  refine DE.out.mono ?_
  rintro e4 w4 ⟨rfl, hb4⟩
  have B4 := Aside0.mk (bthen B3.out hb4)
  clear hb4
  go_wp2_with fail
  refine (isref_any ⟨5, nil⟩ w4).mono ?_
  rintro e5 w5 ⟨rfl, hb5⟩
  have B5 := Aside0.mk (bthen B4.out hb5)
  go_wp2
  go_ret
  exact ⟨rfl, B5.out⟩
end Go.Proofs.YtpdjkclacbgneaaGreat
namespace Go.Proofs.YtpdjkclacbgneaaGreat
open Go.RowKit Go.Shelf Go.Proofs.YtpdjkclacbgneaaGreatW.PrintWords Go.Proofs.YtpdjkclacbgneaaGreat.Pl

theorem u8_at {w : World} {A : Option Addr} {n : Nat} {l : List Int} (h : (Kd.int .u8).C w A n l) {k : Nat} {x : Int} (hk : l[k]? = some x) : ∃ ad, A = some ad ∧ w.cell? (ad.add k) = some (.int .u8 x) := by
  have hl := (List.getElem?_eq_some_iff.1 hk).1
  obtain ⟨ad, e, hc⟩ := Kd.at_int h (k : Int) (by omega) (by have := h.1; omega)
  refine ⟨ad, e, ?_⟩
  rw [Int.toNat_natCast, rd, Int.toNat_natCast, List.getD_eq_getElem?_getD, hk] at hc
  exact hc
theorem rem4 (x : Int) (h0 : 0 ≤ x) : (x.tmod 4 = 0 ∧ x % 4 = 0 ∧ opR x = ⟨1, 0⟩ ∧ isRef (tyR x) = false) ∨ (x.tmod 4 = 1 ∧ x % 4 = 1 ∧ opR x = ⟨2, 1⟩ ∧ isRef (tyR x) = false) ∨ (x.tmod 4 = 2 ∧ x % 4 = 2 ∧ opR x = ⟨25, 2⟩ ∧ isRef (tyR x) = true) ∨ (x.tmod 4 = 3 ∧ x % 4 = 3 ∧ opR x = ⟨3, 0⟩ ∧ isRef (tyR x) = true) := by
  rw [Int.tmod_eq_emod_of_nonneg h0, isRef_ty]
  unfold opR
  have h1 : 0 ≤ x % 4 := Int.emod_nonneg _ (by decide)
  have h4 : x % 4 < 4 := Int.emod_lt_of_pos _ (by decide)
  rcases (by omega : x % 4 = 0 ∨ x % 4 = 1 ∨ x % 4 = 2 ∨ x % 4 = 3) with h | h | h | h
  · rw [h]; exact .inl ⟨rfl, rfl, rfl, rfl⟩
  · rw [h]; exact .inr (.inl ⟨rfl, rfl, rfl, rfl⟩)
  · rw [h]; exact .inr (.inr (.inl ⟨rfl, rfl, rfl, rfl⟩))
  · rw [h]; exact .inr (.inr (.inr ⟨rfl, rfl, rfl, rfl⟩))
def poolO : Obj := .cells #[.int .i64 1, .int .i64 0, .complex .f64 0 0, .string ⟨#[]⟩, .string ⟨#[]⟩, .int .i64 2, .int .i64 0, .complex .f64 0 0, .string ⟨#[]⟩, .string ⟨#[]⟩, .int .i64 3, .int .i64 0, .complex .f64 0 0, .string ⟨#[77, 97, 105, 110]⟩, .string ⟨#[]⟩] 26
def opsO : Obj := .cells #[.int .i64 1, .int .i64 0, .int .i64 2, .int .i64 1, .int .i64 25, .int .i64 2, .int .i64 3, .int .i64 0] 30
theorem pool_C {w : World} {g : Nat} (h : w.heap[g]? = some poolO) : cnK.C w (some ⟨g, 0, none⟩) poolR.length poolR :=
  ⟨rfl, by decide, fun _ => ⟨_, rfl, fun j p hj => by
    have hj3 : j < 3 := (List.getElem?_eq_some_iff.1 hj).1
    rcases (by omega : j = 0 ∨ j = 1 ∨ j = 2) with rfl | rfl | rfl
    all_goals
      cases hj
      refine ⟨_, rfl, cnK_c1 _ _, fun i u hu => ?_⟩
      have hi : i < 5 := (List.getElem?_eq_some_iff.1 hu).1
      rw [add_zero_off]
      rcases (by omega : i = 0 ∨ i = 1 ∨ i = 2 ∨ i = 3 ∨ i = 4) with rfl | rfl | rfl | rfl | rfl <;> cases hu <;> exact Bx.cell ⟨h⟩ rfl⟩⟩
theorem ops_cells {w : World} {g : Nat} (h : w.heap[g]? = some opsO) : w.cell? ⟨g, 0, none⟩ = some (.int .i64 1) ∧ w.cell? ⟨g, 1, none⟩ = some (.int .i64 0) ∧ w.cell? ⟨g, 2, none⟩ = some (.int .i64 2) ∧ w.cell? ⟨g, 3, none⟩ = some (.int .i64 1) ∧ w.cell? ⟨g, 4, none⟩ = some (.int .i64 25) ∧ w.cell? ⟨g, 5, none⟩ = some (.int .i64 2) ∧ w.cell? ⟨g, 6, none⟩ = some (.int .i64 3) ∧ w.cell? ⟨g, 7, none⟩ = some (.int .i64 0) :=
  Bx.eight ⟨h⟩
set_option maxRecDepth 100000 in
set_option maxHeartbeats 4000000 in
theorem roots_walk (A : Option Addr) (len cap : Nat) (l : List Int) (sto : Int) (hsto : (Lit.int .u8 sto).wf = true) (w : World) (hA : (Kd.int .u8).C w A len l) (hwf : ∀ n ∈ l, (Lit.int .u8 n).wf = true) : Calls Tryz.prog 3 #[.slice A len cap, .int .u8 sto] w fun e w' => e = .returned (.bool true) ∧ Below w.heap.size w w' := by
  have HA := Aside0.mk hA
  have HWF := Aside0.mk hwf
  obtain ⟨s0, s255⟩ := bounds_u8 hsto
  have hlen := hA.1
  have hmax := hA.2.1
  clear hA hwf hsto
  go_enter Tryz.func3, Tryz.ntmps3
  go_wp2_with fail
  refine (known10_any w).mono ?_
  rintro e1 w1 ⟨rfl, hb1⟩
  have B1 := Aside0.mk hb1
  clear hb1
  by_cases h0 : len < 1
  · have h0z : (len : Int) < 1 := by omega
    go_wp2
    go_ret
    exact ⟨rfl, B1.out⟩
  have h0z : ¬ (len : Int) < 1 := by omega
  by_cases h10 : 10 < len
  · have h10z : (len : Int) > 10 := by omega
    go_wp2
    go_ret
    exact ⟨rfl, B1.out⟩
  have h10z : ¬ (len : Int) > 10 := by omega
  have HC1 := Aside0.mk (Kd.C_below HA.out B1.out)
  clear HA
  go_wp2_with fail
  obtain ⟨W2, hW2⟩ : ∃ W2, (w1.alloc poolO).alloc opsO = W2 := ⟨_, rfl⟩
  have hg1 : W2.heap[w1.heap.size]? = some poolO := by rw [← hW2]; exact blk_alloc (blk_new _ _) _
  have hg2 : W2.heap[w1.heap.size + 1]? = some opsO := by rw [← hW2]; exact blk_second w1 _ _
  have hb2 : Below w1.heap.size w1 W2 := by rw [← hW2]; exact bthen (balloc _ _) (balloc _ _)
  have HC2 := Aside0.mk (Kd.C_below HC1.out hb2)
  have B2 := Aside0.mk (bthen B1.out hb2)
  have G1 := Aside0.mk hg1
  have G2 := Aside0.mk hg2
  unfold poolO opsO at hW2
  clear hg1 hg2 hb2
  rw [hW2]
  clear hW2 HC1
  go_loopw [7, 8] (fun s7 s8 wr => ∃ kk : Nat, kk ≤ len ∧ s8 = .int .i64 kk ∧ Aside0 (OwnIn W2.heap.size wr s7 ((l.take kk).map opR)) ∧ Aside0 (Below W2.heap.size W2 wr)) (fun _ s8 _ => len - (intOf s8).toNat)
  case atStart => exact ⟨0, Nat.zero_le _, rfl, ⟨⟨rfl, .inl ⟨rfl, rfl⟩⟩⟩, ⟨Below.refl _ _⟩⟩
  case round =>
    obtain ⟨kk, hk, rfl, HO, BW⟩ := hrel
    have hk0 : (0 : Int) ≤ (kk : Int) := by omega
    by_cases hlt : kk < len
    · have hltz : (kk : Int) < (len : Int) := by omega
      obtain ⟨x, hx⟩ : ∃ x, l[kk]? = some x := ⟨_, List.getElem?_eq_getElem (by omega)⟩
      obtain ⟨x0, x255⟩ := bounds_u8 (HWF.out x (List.mem_of_getElem? hx))
      obtain ⟨ad, hA, hcell⟩ := u8_at HC2.out hx
      subst hA
      have hcell := pw_cell_below BW.out hcell
      have HTK := Lib.hid (show (l.take (kk + 1)).map opR = (l.take kk).map opR ++ [opR x] by rw [List.take_add_one, hx, List.map_append]; rfl)
      have HLT := Lib.hid hlt
      obtain ⟨v1, w3, E1, h2, h3, hgr⟩ := app_lit [opR x] HO.out BW.out.size (by rw [List.length_map, List.length_take]; simp; omega)
      rw [← HTK.out] at h2
      have H2 := Aside0.mk h2
      have B3 := Aside0.mk (BW.out.trans h3)
      obtain ⟨o0, o1, o2, o3, o4, o5, o6, o7⟩ := ops_cells (blk_below G2.out BW.out)
      clear h2 h3 hgr hlt hx HO
      rcases rem4 x x0 with ⟨htm, hmd, hop, _⟩ | ⟨htm, hmd, hop, _⟩ | ⟨htm, hmd, hop, _⟩ | ⟨htm, hmd, hop, _⟩
      all_goals
        rw [hop] at E1
        go_wp2_with (at_builtin; refine wpList_append_E rfl _ _ _ rfl rfl rfl E1 ?_)
        clear E1
        go_wp2
        go_roundw
        case rel => exact ⟨kk + 1, HLT.out, by go_num, H2, B3⟩
        case measure => have := HLT.out; simp [intOf]; omega
    · have hltz : ¬ (kk : Int) < (len : Int) := by omega
      have hkl : kk = len := by omega
      rw [hkl, List.take_of_length_le (by omega)] at HO
      obtain ⟨AC, cC, rfl⟩ := own_slice HO.out
      have hll : (l.map opR).length = len := by rw [List.length_map]; exact hlen
      rw [hll] at HO ⊢
      obtain ⟨v1, w3, E1, h2, h3, hgr⟩ := app_lit [opR sto, ⟨5, 1⟩, ⟨45, 0⟩, ⟨33, 0⟩] (v := .slice AC len cC) (l := l.map opR) HO.out BW.out.size (by rw [hll]; simp; omega)
      have hcode : l.map opR ++ [opR sto, ⟨5, 1⟩, ⟨45, 0⟩, ⟨33, 0⟩] = codeR (l ++ [sto]) := by simp [codeR]
      rw [hcode] at h2
      obtain ⟨o0, o1, o2, o3, o4, o5, o6, o7⟩ := ops_cells (blk_below G2.out BW.out)
      obtain ⟨A2, c2, rfl, hc2, hC2⟩ := h2.reads
      have hb3 : Below W2.heap.size W2 w3 := BW.out.trans h3
      have hp := pool_C (blk_below G1.out hb3)
      have hC3 := rows_mainG (loc := 3) (stk := 12) hc2 hC2 (d := 3) (by decide) hp
      obtain ⟨r1, r2, r3, r4, r5, r6, L, Ls, r7, r8, r9, r10⟩ := roots_R (l ++ [sto]) (by simp; omega) (by simp)
      have hln : (codeR (l ++ [sto])).length = len + 4 := by rw [codeR_len]; simp; omega
      have LK := link_mainF 3 12 (codeR (l ++ [sto])) poolR _ _ hC3
      rw [r1] at LK
      rw [hln] at E1 LK
      have LK := Aside0.mk LK
      have B3 := Aside0.mk (bthen B2.out hb3)
      have B4 := Aside0.mk (bthen B3.out (bthen (balloc w3 (.cells #[.string nmain, .slice none 0 0, .int .i64 0, .string nil, .int .i64 3, .int .i64 12, .slice A2 (len + 4) c2, .slice none 0 0] 41)) (balloc _ (.cells #[.string nMain, .string nil, .slice (some ⟨w1.heap.size, 0, none⟩) 3 3, .slice none 0 0, .slice (some ⟨w3.heap.size, 0, none⟩) 1 1] 45))))
      have HC3 := Aside0.mk (Kd.C_below HC2.out hb3)
      have OFS := Aside0.mk (fun wB pb (H : ProgIs wB pb (pgR (codeR (l ++ [sto])))) => of_any wB pb _ H r2 nObject nFault r3 r4 r5 (mtR (codeR (l ++ [sto]))) r6 rfl 100 L Ls r7 r8 (by rw [r9]; simp; omega))
      have HLN := Lib.hid hlen
      have SP : Aside0 (∀ k : Nat, k ≤ len → stAt L (k : Int) = ⟨true, locR, (l.take k).map tyR⟩) := ⟨fun k hk => by
        unfold stAt
        rw [if_neg (by omega), Int.toNat_natCast, r10]
        have := seq_R (pgR (codeR (l ++ [sto]))) (codeR (l ++ [sto])) locR (l ++ [sto]) [] k (by simp; omega)
        rw [List.nil_append, List.take_append_of_le_length (by omega)] at this
        exact this⟩
      have SE : Aside0 (stAt L ((len : Int) + 2) = ⟨true, locR.set 1 (tyR sto), l.map tyR⟩) := ⟨by
        unfold stAt
        rw [if_neg (by omega), r10, show ((len : Int) + 2).toNat = l.length + 2 by omega]
        have := seq_last (pgR (codeR (l ++ [sto]))) (codeR (l ++ [sto])) locR sto l []
        rw [List.nil_append] at this
        exact this⟩
      clear h2 h3 hgr hcode hC2 hC3 hp r1 r2 r3 r4 r5 r6 r7 r8 r9 r10 hln hll hb3 hlt hk hkl HO BW hlen hc2
      rcases rem4 sto s0 with ⟨htm, hmd, hop, hrf⟩ | ⟨htm, hmd, hop, hrf⟩ | ⟨htm, hmd, hop, hrf⟩ | ⟨htm, hmd, hop, hrf⟩
      all_goals
        rw [hop] at E1
        go_wp2_with (at_builtin; refine wpList_append_E rfl _ _ _ rfl rfl rfl E1 ?_)
        clear E1 o0 o1 o2 o3 o4 o5 o6 o7
        refine LK.out.mono ?_
        rintro e4 w4 ⟨pp, rfl, hp, hb4⟩
        obtain ⟨pb, rfl, hP⟩ := hp trivial
        have B5 := Aside0.mk (bthen B4.out hb4)
        have HB4 := Aside0.mk hb4
        have OF := Aside0.mk (OFS.out w4 pb hP)
        clear hp hb4 hP LK OFS
        go_wp2_with fail
        refine OF.out.mono ?_
        rintro e5 w5 ⟨mp, rfl, hM, hb5⟩
        have HM := Aside0.mk hM
        have HC5 := Aside0.mk (Kd.C_below HC3.out (bthen (bthen (balloc w3 (.cells #[.string nmain, .slice none 0 0, .int .i64 0, .string nil, .int .i64 3, .int .i64 12, .slice A2 (len + 4) c2, .slice none 0 0] 41)) (balloc _ (.cells #[.string nMain, .string nil, .slice (some ⟨w1.heap.size, 0, none⟩) 3 3, .slice none 0 0, .slice (some ⟨w3.heap.size, 0, none⟩) 1 1] 45))) (bthen (HB4.out) hb5)))
        have B6 := Aside0.mk (bthen B5.out hb5)
        clear hM hb5 OF B5 B4 B3 HC3
        go_wp2_with fail
        go_loopw [14] (fun s14 wr => ∃ pc : Nat, pc ≤ len + 1 ∧ s14 = .int .i64 pc ∧ Aside0 (Below w5.heap.size w5 wr)) (fun s14 _ => len + 1 - (intOf s14).toNat)
        case atStart => exact ⟨0, Nat.zero_le _, rfl, ⟨Below.refl _ _⟩⟩
        case round =>
          obtain ⟨pc, hpc, rfl, BW⟩ := hrel
          have hpc0 : (0 : Int) ≤ (pc : Int) := by omega
          by_cases hlt : pc ≤ len
          · have hltz : (pc : Int) ≤ (len : Int) := by omega
            have hsp := SP.out pc hlt
            have hM1 := HM.out.below BW.out
            have hln := HLN.out
            obtain ⟨bs, hbs⟩ : ∃ bs, ((l.take pc).map tyR).map isRef = bs := ⟨_, rfl⟩
            have hbl : bs.length = pc := by rw [← hbs]; simp; omega
            have AT := at_any wr mp L (pc : Int) hM1 (by rw [hsp]; show 3 ≤ 1000; decide) (by rw [hsp]; simp; omega)
            have DE : ∀ w8, Below wr.heap.size wr w8 → Calls Tryz.prog 8 #[.pointer (some ⟨mp, 0, none⟩), .string nMain, .string nmain, .int .i64 (pc : Int)] w8 fun e w' => e = .returned (.int .i64 (pc : Int)) ∧ Below w8.heap.size w8 w' := fun w8 h8 => by
              have := depth_any w8 mp L (pc : Int) (hM1.below h8)
              rw [hsp] at this
              simp only [if_true, List.length_map, List.length_take] at this
              rwa [show min pc l.length = pc by omega] at this
            rw [hsp] at AT
            have AT := Aside0.mk AT
            have DE := Aside0.mk DE
            have HBS := Aside0.mk (And.intro hbs hbl)
            have HPC := Lib.hid hlt
            clear hsp hM1 hln hbs hbl hlt
            go_wp2_with fail
            refine AT.out.mono ?_
            rintro e6 w6 ⟨v, u, rfl, hvu, hb6⟩
            obtain ⟨⟨g1, rfl, hg1⟩, ⟨g2, rfl, hg2⟩⟩ := hvu rfl
            rw [show (St.mk true locR ((l.take pc).map tyR)).stack.map isRef = bs from HBS.out.1] at hg2 ⊢
            rw [show (St.mk true locR ((l.take pc).map tyR)).locals.map isRef = [true, false, false] from rfl] at hg1 ⊢
            rw [HBS.out.2]
            have l0 : w6.cell? ⟨g1, 0, none⟩ = some (.bool true) := Bx.cell ⟨hg1⟩ (j := 0) rfl
            have l1 : w6.cell? ⟨g1, 1, none⟩ = some (.bool false) := Bx.cell ⟨hg1⟩ (j := 1) rfl
            have l2 : w6.cell? ⟨g1, 2, none⟩ = some (.bool false) := Bx.cell ⟨hg1⟩ (j := 2) rfl
            have HG2 := Aside0.mk hg2
            have B8 := Aside0.mk (bthen BW.out hb6)
            have HB6 := Aside0.mk hb6
            clear hvu hg1 hg2 hb6 AT
            go_wp2_with fail
            refine (DE.out w6 HB6.out).mono ?_
            rintro e7 w7 ⟨rfl, hb7⟩
            have HG2 := Aside0.mk (blk_below HG2.out hb7)
            have B9 := Aside0.mk (bthen B8.out hb7)
            clear l0 l1 l2 hb7 HB6 B8 DE
            go_wp2_with fail
            go_loopw [18] (fun s18 wr => ∃ i : Nat, i ≤ pc ∧ s18 = .int .i64 i ∧ Aside0 (Below w7.heap.size w7 wr)) (fun s18 _ => pc - (intOf s18).toNat)
            case atStart => exact ⟨0, Nat.zero_le _, rfl, ⟨Below.refl _ _⟩⟩
            case round =>
              clear BW
              obtain ⟨i, hi, rfl, BW⟩ := hrel
              have hi0 : (0 : Int) ≤ (i : Int) := by omega
              by_cases hil : i < pc
              · have hilz : (i : Int) < (pc : Int) := by omega
                have hln := HLN.out
                have hpcl := HPC.out
                have hilen : (i : Int) < (len : Int) := by omega
                obtain ⟨x, hx⟩ : ∃ x, l[i]? = some x := ⟨_, List.getElem?_eq_getElem (by omega)⟩
                obtain ⟨x0, x255⟩ := bounds_u8 (HWF.out x (List.mem_of_getElem? hx))
                obtain ⟨ad, hA, hcell⟩ := u8_at HC5.out hx
                subst hA
                have hcell := pw_cell_below (bthen B9.out BW.out) hcell
                have hbx : bs[i]? = some (isRef (tyR x)) := by
                  rw [← HBS.out.1, List.getElem?_map, List.getElem?_map, List.getElem?_take_of_lt hil, hx]
                  rfl
                have q0 : wr.cell? ⟨g2, i, none⟩ = some (.bool (isRef (tyR x))) := Bx.cell ⟨blk_below HG2.out BW.out⟩ (by simp [hbx])
                have HIL := Lib.hid hil
                have hcd : wr.drew.cell? (ad.add i) = some (.int .u8 x) := hcell
                have q0d : wr.drew.cell? ⟨g2, i, none⟩ = some (.bool (isRef (tyR x))) := q0
                have BD := Aside0.mk (below_drew BW.out)
                clear hx hbx hil hi hln hpcl
                rcases rem4 x x0 with ⟨hxm, hxd, _, hxr⟩ | ⟨hxm, hxd, _, hxr⟩ | ⟨hxm, hxd, _, hxr⟩ | ⟨hxm, hxd, _, hxr⟩
                all_goals
                  rw [hxr] at q0 q0d
                  go_wp2
                  go_still_tail 10, (by kernel_rfl)
                  go_wp2
                  go_roundw
                  case rel => exact ⟨i + 1, HIL.out, by go_num, by first | exact BW | exact BD⟩
                  case measure => have := HIL.out; simp [intOf]; omega
              · have hilz : ¬ (i : Int) < (pc : Int) := by omega
                have BN := Aside0.mk (bthen B9.out BW.out)
                clear hil
                go_wp2
                go_roundw
                case rel => exact ⟨pc + 1, by have := HPC.out; omega, by go_num, BN⟩
                case measure => have := HPC.out; simp [intOf]; omega
          · have hltz : ¬ (pc : Int) ≤ (len : Int) := by omega
            have hln := HLN.out
            have hse := SE.out
            have AT := at_any wr mp L ((len : Int) + 2) (HM.out.below BW.out) (by rw [hse]; show 3 ≤ 1000; decide) (by rw [hse]; simp; omega)
            rw [hse] at AT
            have AT := Aside0.mk AT
            clear hse hln hlt hpc
            go_wp2_with fail
            refine AT.out.mono ?_
            rintro e6 w6 ⟨v, u, rfl, hvu, hb6⟩
            obtain ⟨⟨g1, rfl, hg1⟩, ⟨g2, rfl, hg2⟩⟩ := hvu rfl
            rw [show (St.mk true (locR.set 1 (tyR sto)) (l.map tyR)).locals.map isRef = [true, isRef (tyR sto), false] from rfl, hrf] at hg1 ⊢
            rw [show ((St.mk true (locR.set 1 (tyR sto)) (l.map tyR)).stack.map isRef).length = len by rw [List.length_map, List.length_map, HLN.out]]
            have l1 := Bx.cell ⟨hg1⟩ (j := 1) rfl
            have l2 := Bx.cell ⟨hg1⟩ (j := 2) rfl
            have B9 := Aside0.mk (bthen (bthen B6.out BW.out) hb6)
            clear hvu hg1 hg2 hb6 AT
            go_wp2
            go_ret
            exact ⟨rfl, B9.out⟩
end Go.Proofs.YtpdjkclacbgneaaGreat
