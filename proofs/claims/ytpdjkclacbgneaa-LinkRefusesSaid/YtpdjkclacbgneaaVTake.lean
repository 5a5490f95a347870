/- verify's takes: one type asked for, by a range over slices.Backward. -/
import Derived.RangeFuncNested
import Derived.RangeFuncBound
import Derived.RangeFuncCalls
import Derived.RangeFuncLeaves
import Derived.Shelf.Abstract
import Derived.Shelf.RegionOpen
import Derived.WalkKit
import Derived.OwnWalkIn
import Derived.TacticsInMore
import Derived.LoopNIn
import Derived.LoopIn
import Derived.Test.YtpdjkclacbgneaaVRun
import Derived.Test.YtpdjkclacbgneaaRound
set_option linter.unusedVariables false
set_option linter.unusedSimpArgs false
namespace Go.Proofs.Ytpdjkclacbgneaa
open Go.RowKit Go.Shelf Go.Proofs.YtpdjkclacbgneaaW.PrintWords Go.Proofs.Ytpdjkclacbgneaa.Pl
attribute [local go_sem] Oper.semAt_some

theorem back_in (F : Fence) (n : Nat) (hf : F.fn 146) (hro : F.round = none) (s : Value) (hs : ∃ A m c, s = .slice A m c) (w : World) :
    CallsIn F n Try.prog 146 #[s] w fun e w' => e = .returned (.func (.func 149) #[] #[.pointer (some ⟨w.heap.size, 0, none⟩)]) ∧ w' = w.alloc (.cells #[s] 63) := by
  obtain ⟨A, m, c, rfl⟩ := hs
  refine callsIn_of_wp Try.func146 rfl hf ?_ hro
  simp only [Try.ntmps146, List.size_toArray, List.length_cons, List.length_nil, Nat.reduceAdd, Nat.reduceSub, Array.replicate_succ, Array.replicate_zero, List.push_toArray, List.append_toArray, List.nil_append, List.cons_append]
  gi_wp2
  go_ret
  exact ⟨rfl, rfl⟩
/-- What a run may read: the flow's program. -/
structure EnvAt (B : Nat) (w : World) (fb pb : Nat) (p : Pg) : Prop where
  prog : ∀ W, Below B w W → ProgIs W pb p
  flow : ∀ W, Below B w W → W.cell? ⟨fb, 0, none⟩ = some (.pointer (some ⟨pb, 0, none⟩))
theorem EnvAt.below {B : Nat} {w w1 : World} {fb pb : Nat} {p : Pg} (E : EnvAt B w fb pb p) (hb : Below B w w1) : EnvAt B w1 fb pb p := ⟨fun W h => E.prog W (hb.trans h), fun W h => E.flow W (hb.trans h)⟩
theorem RunAt.kept {B : Nat} {w W : World} {rb fb : Nat} {r : Rn} {row : Option Nat} (h : RunAt B w rb fb r) (hg : w.grownBy W row) (hr : ∀ k, row = some k → ∃ o : Obj, w.heap[k]? = some o ∧ o.isCells = false) : RunAt B W rb fb r := by
  have hl := h.lt
  obtain ⟨h1, L, S, h2, h3, h4, h5⟩ := h
  have key : ∀ (k : Nat) (cs : Array Value) (t : TypeId), w.heap[k]? = some (Obj.cells cs t (0, 0)) → W.heap[k]? = w.heap[k]? := fun k cs t hk => hg.block k (blk_lt hk) (fun e => by
    obtain ⟨o, ho, hc⟩ := hr k e.symm
    rw [hk] at ho
    cases ho
    cases hc)
  refine ⟨h1, L, S, (key _ _ _ h2).trans h2, own_move h3 (fun k hk => ?_), own_move h4 (fun k hk => ?_), h5⟩
  · obtain ⟨cs, hc⟩ := own_typed h3 k hk
    exact key _ _ _ hc
  · obtain ⟨cs, hc⟩ := own_typed h4 k hk
    exact key _ _ _ hc
set_option maxRecDepth 100000 in
set_option maxHeartbeats 1000000 in
/-- The iterator over a row of one type. -/
theorem back1_in (F : Fence) (n : Nat) (hf : F.fn 149) (hro : F.round = none) (hn : 1 ≤ n) (l Bn g c : Nat) (t : Ty) (J Jx : List Ty → World → Prop)
    (hY : ∀ pre x W, J pre W → pre.length < 1 → YieldAt F (n - 1) Try.prog l #[.int .i64 0, .agg #[.int .i64 x.kind, .string x.cls]] W fun e W' =>
      (e = .returned (.bool true) ∧ J (pre ++ [x]) W' ∧ True) ∨ (e = .returned (.bool false) ∧ Jx (pre ++ [x]) W'))
    (W : World) (hBn : W.cell? ⟨Bn, 0, none⟩ = some (.slice (some ⟨g, 0, none⟩) 1 c)) (c0 : W.cell? ⟨g, 0, none⟩ = some (.int .i64 t.kind)) (c1 : W.cell? ⟨g, 1, none⟩ = some (.string t.cls)) (h0 : J [] W) :
    CallsIn F n Try.prog 149 #[.func (.yield l) #[] #[], .pointer (some ⟨Bn, 0, none⟩)] W fun e W' => (∃ v, e = .returned v) ∧
      ((∃ ys, ys = [t] ∧ J ys W') ∨ (∃ pre, pre = [t] ∧ Jx pre W')) := by
  refine callsIn_of_wp Try.func149 rfl hf ?_ hro
  simp only [Try.ntmps149, List.size_toArray, List.length_cons, List.length_nil, Nat.reduceAdd, Nat.reduceSub, Array.replicate_succ, Array.replicate_zero, List.push_toArray, List.append_toArray, List.nil_append, List.cons_append]
  have HY := Aside0.mk hY
  have H0 := Aside0.mk h0
  clear hY h0
  gi_wp2
  gi_loopw [3] (fun s3 wr => (s3 = .int .i64 0 ∧ wr = W) ∨ (s3 = .int .i64 (-1) ∧ Aside0 (J [t] wr))) (fun s3 _ => (intOf s3 + 1).toNat)
  case atStart => exact .inl ⟨rfl, rfl⟩
  case round =>
    rcases hrel with ⟨rfl, rfl⟩ | ⟨rfl, hJ⟩
    · obtain ⟨fn, tmps, assign, body, hy, hR⟩ := HY.out [] t _ H0.out (by simp)
      gi_wp2
      refine hR.mono ?_
      rintro e W3 (⟨rfl, hJ3, _⟩ | ⟨rfl, hJx3⟩)
      · have hJ3 : Aside0 (J [t] W3) := ⟨hJ3⟩
        gi_wp2
        go_roundw
        case rel => exact .inr ⟨rfl, hJ3⟩
        case measure => simp [intOf]
      · gi_wp2
        refine bodyPost_ret (results_none rfl _ _ _) rfl ?_
        exact ⟨⟨_, rfl⟩, .inr ⟨_, rfl, hJx3⟩⟩
    · gi_wp2
      go_end0
      exact ⟨⟨_, rfl⟩, .inl ⟨_, rfl, hJ.out⟩⟩
theorem back_stops (F : Fence) (n : Nat) (hf : F.fn 149) (hro : F.round = none) (hn : 1 ≤ n) (Bn g c : Nat) (t : Ty) (w : World) (hB : Bn < w.heap.size) (hg : g < w.heap.size) (hBn : w.cell? ⟨Bn, 0, none⟩ = some (.slice (some ⟨g, 0, none⟩) 1 c)) (c0 : w.cell? ⟨g, 0, none⟩ = some (.int .i64 t.kind)) (c1 : w.cell? ⟨g, 1, none⟩ = some (.string t.cls)) :
    SeqStopsK F n Try.prog 149 #[.pointer (some ⟨Bn, 0, none⟩)] (fun x : Ty => #[.int .i64 0, .agg #[.int .i64 x.kind, .string x.cls]]) (fun _ _ => True) (fun ys => ys = [t]) (fun pre => pre = [t]) 1 w := fun l J Jx W hW _ _ hY h0 =>
  back1_in F n hf hro hn l Bn g c t J Jx hY W ((hW.cell (p := ⟨Bn, 0, none⟩) hB).trans hBn) ((hW.cell (p := ⟨g, 0, none⟩) hg).trans c0) ((hW.cell (p := ⟨g, 1, none⟩) hg).trans c1) h0
/-- What has come of a run, types having been asked for. -/
def took (p : Pg) (r : Rn) : List Ty → Rn
  | [] => r
  | t :: l => took p (takes p r t) l
theorem took_snoc (p : Pg) (t : Ty) : ∀ (l : List Ty) (r : Rn), took p r (l ++ [t]) = takes p (took p r l) t
  | [], r => rfl
  | a :: l, r => took_snoc p t l (takes p r a)
theorem hier_any (pb g : Nat) (w : World) (h : w.cell? ⟨pb, 0, none⟩ = some (.pointer (some ⟨g, 0, none⟩))) : Calls Try.prog 54 #[.pointer (some ⟨pb, 0, none⟩)] w fun e w' => e = .returned (.pointer (some ⟨g, 0, none⟩)) ∧ w = w' := by
  go_enter Try.func54, Try.ntmps54
  go_wp2
  go_ret
  exact ⟨rfl, rfl⟩
set_option maxRecDepth 100000 in
set_option maxHeartbeats 1000000 in
theorem takes_in {B : Nat} {w : World} {rb fb pb : Nat} {p : Pg} {r : Rn} (h : RunAt B w rb fb r) (E : EnvAt B w fb pb p) (t : Ty) (g : Nat) (hg : g < w.heap.size) (c0 : w.cell? ⟨g, 0, none⟩ = some (.int .i64 t.kind)) (c1 : w.cell? ⟨g, 1, none⟩ = some (.string t.cls)) :
    CallsIn Fence.wide 8 Try.prog 131 #[.pointer (some ⟨rb, 0, none⟩), .slice (some ⟨g, 0, none⟩) 1 1] w fun x w' => x = .returned (.tuple #[]) ∧ RunAt B w' rb fb (takes p r t) ∧ w.grownBy w' (some rb) := by
  have hs := h.size
  have H := Aside0.mk h
  have E := Aside0.mk E
  clear h
  refine callsIn_of_wp_marks Try.func131 rfl trivial ?_ rfl
  simp only [Try.ntmps131, List.size_toArray, List.length_cons, List.length_nil, Nat.reduceAdd, Nat.reduceSub, Array.replicate_succ, Array.replicate_zero, List.push_toArray, List.append_toArray, List.nil_append, List.cons_append]
  gi_wp2_with (refine ⟨trivial, ?_⟩; gi_at_call 146; refine (back_in Fence.wide 7 trivial rfl _ ⟨_, _, _, rfl⟩ _).mono ?_; rintro e w' ⟨rfl, rfl⟩)
  obtain ⟨W0, hW0⟩ : ∃ W0, (w.alloc (.cells #[.pointer (some ⟨rb, 0, none⟩)] 149)).alloc (.cells #[.slice (some ⟨g, 0, none⟩) 1 1] 63) = W0 := ⟨_, rfl⟩
  have hb1 : Below w.heap.size w W0 := by rw [← hW0]; exact bthen (balloc w _) (balloc _ _)
  have hsz : W0.heap.size = w.heap.size + 2 := by rw [← hW0]; simp
  have hk0 : W0.heap[w.heap.size]? = some (.cells #[.pointer (some ⟨rb, 0, none⟩)] 149 (0, 0)) := by rw [← hW0]; exact blk_alloc (blk_new w _) _
  have hk1 : W0.heap[w.heap.size + 1]? = some (.cells #[.slice (some ⟨g, 0, none⟩) 1 1] 63 (0, 0)) := by
    rw [← hW0]
    have := blk_new (w.alloc (.cells #[.pointer (some ⟨rb, 0, none⟩)] 149)) (.cells #[.slice (some ⟨g, 0, none⟩) 1 1] 63)
    rw [World.size_alloc] at this
    exact this
  rw [hW0]
  clear hW0
  have b1 : W0.cell? ⟨w.heap.size + 1, 0, none⟩ = some (.slice (some ⟨g, 0, none⟩) 1 1) := Bx.cell ⟨hk1⟩ (j := 0) rfl
  have own : ∀ {R : List Ty → World → Prop} (s : List Ty) (X Y : World) (row : Option Nat), w.grownBy X (some rb) ∧ RunAt B X rb fb (took p r s) ∧ X.heap[w.heap.size]? = some (.cells #[.pointer (some ⟨rb, 0, none⟩)] 149 (0, 0)) → X.grownBy Y row → (∀ k, row = some k → W0.heap.size ≤ k ∧ ∃ o : Obj, X.heap[k]? = some o ∧ o.isCells = false) → w.grownBy Y (some rb) ∧ RunAt B Y rb fb (took p r s) ∧ Y.heap[w.heap.size]? = some (.cells #[.pointer (some ⟨rb, 0, none⟩)] 149 (0, 0)) := by
    intro R s X Y row ⟨h1, h2, h3⟩ hg hr
    refine ⟨⟨hg.os.trans h1.os, hg.tape.trans h1.tape, hg.output.trans h1.output, Nat.le_trans h1.size hg.size, fun k hk hn => ?_⟩, h2.kept hg (fun k e => (hr k e).2), ?_⟩
    · refine (hg.block k (by have := h1.size; omega) (fun e => ?_)).trans (h1.block k hk hn)
      have := (hr k e.symm).1
      omega
    · refine (hg.block _ (blk_lt h3) (fun e => ?_)).trans h3
      have := (hr _ e.symm).1
      omega
  refine wpIn_rangeFunc_ownH rfl (by decide) (gf := 149) (lb := #[.pointer (some ⟨w.heap.size + 1, 0, none⟩)]) rfl trivial (enters_of Try.func149 (by kernel_rfl) rfl)
    (back_stops Fence.wide 7 trivial rfl (by decide) (w.heap.size + 1) g 1 t W0 (by omega) (by omega) b1 (pw_cell_below hb1 c0) (pw_cell_below hb1 c1)) (fun _ _ => trivial) (fun _ _ _ _ _ _ _ _ => trivial) (Below.refl _ _) (fun _ => rfl)
    (fun pre W => w.grownBy W (some rb) ∧ RunAt B W rb fb (took p r pre) ∧ W.heap[w.heap.size]? = some (.cells #[.pointer (some ⟨rb, 0, none⟩)] 149 (0, 0)))
    (fun _ _ _ => False)
    (fun s X Y row hs hg hr => own (R := fun _ _ => True) s X Y row hs hg hr)
    (fun _ _ _ _ _ hs _ _ => hs)
    ⟨grown_of_below hb1 _, H.out.below hb1, hk0⟩
    (fun x a' W => ∃ Bx, W.heap[Bx]? = some (.cells #[.int .i64 x.kind, .string x.cls] 48 (0, 0)) ∧ a' = { tmps := #[.pointer (some ⟨rb, 0, none⟩), .slice (some ⟨g, 0, none⟩) 1 1, .pointer (some ⟨w.heap.size, 0, none⟩), undef, undef, .pointer (some ⟨Bx, 0, none⟩), undef, .slice (some ⟨g, 0, none⟩) 1 1, .func (.func 149) #[] #[.pointer (some ⟨w.heap.size + 1, 0, none⟩)], .int .i64 0, .agg #[.int .i64 x.kind, .string x.cls], undef, undef, undef, undef, undef, undef, undef, undef, undef, undef, undef, undef, undef, undef, undef, undef, undef, undef, undef, undef, undef, undef, undef], defers := [] })
    (fun x a' _ X Y row hs hg hr => by
      obtain ⟨Bx, h2, h3⟩ := hs
      refine ⟨Bx, (hg.block Bx (blk_lt h2) (fun e => ?_)).trans h2, h3⟩
      obtain ⟨_, o, ho, hc⟩ := hr Bx e.symm
      rw [h2] at ho
      cases ho
      cases hc)
    ?assign ?body ?done ?stop
  case assign =>
    rintro l pre x W K ⟨h1, h2, h3⟩ hK
    gi_wp2
    exact hK _ _ ((KeepsOthers.alloc _ _).from _) trivial ⟨only_alloc h1 _, h2.below (balloc _ _), blk_alloc h3 _⟩ ⟨W.heap.size, blk_new _ _, rfl⟩
  case body =>
    rintro l pre x a' W hl ⟨rr, hr⟩ ⟨h1, h2, h3⟩ ⟨Bx, bX, rfl⟩ hlt
    have hT := took_snoc p x pre r
    generalize took p r pre = r0 at h2 hT
    have HT := Lib.hid hT
    clear hT
    have hlr : l ≠ rb := fun e => by
      obtain ⟨_, L, S, h5, _⟩ := h2
      rw [← e, hr] at h5
      cases h5
    have z0 : W.cell? ⟨w.heap.size, 0, none⟩ = some (.pointer (some ⟨rb, 0, none⟩)) := Go.Proofs.Ytpdjkclacbgneaa.Bx.cell ⟨h3⟩ (j := 0) rfl
    have H2 := Aside0.mk h2
    have H1 := Aside0.mk h1
    clear own h2 h1
    gi_wp2_with (refine ⟨trivial, ?_⟩; gi_at_call 108; refine (CallsIn.inRound l (callsIn_wide.2 (pop_any H2.out))).mono ?_; rintro e w1 ⟨rfl, hr1, hg1⟩)
    obtain ⟨L, S, q2, _⟩ := hr1.out
    obtain ⟨rc0, _, _, _, _, rc5, _⟩ := run_cells q2
    have hmx : Try.prog.follows .mixedOrders = true := by kernel_rfl
    have x0 : w1.cell? ⟨w.heap.size, 0, none⟩ = some (.pointer (some ⟨rb, 0, none⟩)) := Go.Proofs.Ytpdjkclacbgneaa.Bx.cell ⟨blk_grown h3 hg1 (by have := H.out.lt; intro e; cases e; omega)⟩ (j := 0) rfl
    have R1 := Aside0.mk hr1
    have G1 := Aside0.mk hg1
    have P1 : Aside0 (ProgIs w1 pb p) := ⟨E.out.prog _ (only_bel (only_then H1.out hg1) hs H.out.le)⟩
    have F1 : w1.cell? ⟨fb, 0, none⟩ = some (.pointer (some ⟨pb, 0, none⟩)) := E.out.flow _ (only_bel (only_then H1.out hg1) hs H.out.le)
    have k1 := blk_grown h3 hg1 (by have := H.out.lt; intro e; cases e; omega)
    have kX := blk_grown bX hg1 (by
      intro e
      cases e
      obtain ⟨_, L, S, h5, _⟩ := H2.out
      rw [bX] at h5
      cases h5)
    clear hr1 hg1 q2
    gi_wp2
    obtain ⟨W1, hW1⟩ : ∃ W1, w1.alloc (.cells #[.int .i64 (popT r0).kind, .string (popT r0).cls] 48) = W1 := ⟨_, rfl⟩
    have hb2 : Below w1.heap.size w1 W1 := by rw [← hW1]; exact balloc _ _
    have kG : W1.heap[w1.heap.size]? = some (.cells #[.int .i64 (popT r0).kind, .string (popT r0).cls] 48 (0, 0)) := by rw [← hW1]; exact blk_new _ _
    rw [hW1]
    have HW := Lib.hid hW1
    clear hW1
    have P2 := Aside0.mk (P1.out.below hb2)
    obtain ⟨g0, hg0, hI0⟩ := P2.out.hier
    have HI := Aside0.mk hI0
    have HGd := Aside0.mk P2.out.good
    have q0 := cell_regrown (pw_cell_below hb2 x0)
    have q1 := cell_regrown (pw_cell_below hb2 rc0)
    have q2 := cell_regrown (pw_cell_below hb2 rc5)
    have q3 := cell_regrown (pw_cell_below hb2 F1)
    obtain ⟨gg0, gg1⟩ := Go.Proofs.Ytpdjkclacbgneaa.Bx.two ⟨kG⟩
    obtain ⟨gx0, gx1⟩ := Go.Proofs.Ytpdjkclacbgneaa.Bx.two ⟨blk_below kX hb2⟩
    have q4 := cell_regrown gg0
    have q5 := cell_regrown gg1
    have q6 := cell_regrown gx0
    have q7 := cell_regrown gx1
    have cH : ∀ d os, CallsIn Fence.wide (8 - 1 - 1 - 1) Try.prog 54 #[.pointer (some ⟨pb, 0, none⟩)] (Go.Sort.grow (redrawn W1 d) os) fun e w'' => e = .returned (.pointer (some ⟨g0, 0, none⟩)) ∧ ∃ p : Regrown, w'' = Go.Sort.grow (redrawn W1 p.d) p.os := fun d os => callsIn_wide.2 (Calls.regrown_of ((hier_any pb g0 _ (cell_regrown hg0 d os)).mono fun _ _ ⟨e1, e2⟩ => ⟨e1, by rw [← e2]; exact Below.refl _ _⟩))
    have cF : ∀ q, fits p.h (popT r0) x = q → ∀ d os, CallsIn Fence.wide (8 - 1 - 1 - 1) Try.prog 147 #[.pointer (some ⟨g0, 0, none⟩), .agg #[.int .i64 (popT r0).kind, .string (popT r0).cls], .agg #[.int .i64 x.kind, .string x.cls]] (Go.Sort.grow (redrawn W1 d) os) fun e w'' => e = .returned (.bool q) ∧ ∃ p : Regrown, w'' = Go.Sort.grow (redrawn W1 p.d) p.os := fun q hq d os => callsIn_wide.2 (Calls.regrown_of (by rw [← hq]; exact (fits_any g0 p.h (popT r0) x _ (HI.out.below (below_regrown W1 d os)) HGd.out)))
    have cF := Aside0.mk cF
    have hd : 1 ≤ 8 - 1 - 1 := by decide
    have fw : ∀ f, Fence.wide.fn f = True := fun _ => rfl
    have fin : ∀ d os, Aside0 (W.grownBy (Go.Sort.grow (redrawn W1 d) os) (some rb) ∧ RunAt B (Go.Sort.grow (redrawn W1 d) os) rb fb (popR r0) ∧ (Go.Sort.grow (redrawn W1 d) os).heap[w.heap.size]? = some (.cells #[.pointer (some ⟨rb, 0, none⟩)] 149 (0, 0))) := fun d os => by
      have hb3 : Below w1.heap.size w1 (Go.Sort.grow (redrawn W1 d) os) := bthen hb2 (below_regrown W1 d os)
      exact ⟨only_below G1.out hb3, R1.out.below hb3, blk_below k1 hb3⟩
    have hrw : rb < w.heap.size := H.out.lt
    have out : ∀ W', W.grownBy W' (some rb) → KeepsFrom W0.heap.size W W' := fun W' hg => KeepsFrom.of_grownBy hg (fun j e => by cases e; omega)
    have OUT := Aside0.mk out
    have FIN := Aside0.mk fin
    clear x0 rc0 rc5 F1 hg0 hI0 gg0 gg1 gx0 gx1 out fin
    by_cases he : (popR r0).e = 0
    · have he' : ((popR r0).e == 0) = true := by rw [he]; rfl
      have HE := Lib.hid he
      clear he
      rcases hq : fits p.h (popT r0) x with _ | _
      · have HQ := Lib.hid hq
        have cF := cF.out _ hq
        clear hq
        have HR : Hid (takes p r0 x = bad (popR r0) 80) := Lib.hid (by unfold takes; rw [if_pos ⟨HE.out, HQ.out⟩])
        refine wpIn_region_round (by assumption) (by kernel_rfl) (by kernel_rfl) ?_
        repeat (quiet_step_in (first | exact ⟨fun _ => hd, cH _ _⟩ | exact ⟨fun _ => hd, cF _ _⟩ | exact cH _ _ | exact cF _ _))
        refine wpQuietIn_nil ?_
        intro _ hw'
        obtain ⟨⟨dq, osq⟩, hw''⟩ := hw'
        subst hw''
        have HF := FIN.out dq osq
        have q0 := q0 dq osq
        clear q1 q2 q3 q4 q5 q6 q7 cH cF
        generalize Go.Sort.grow (redrawn W1 (Regrown.mk dq osq).d) (Regrown.mk dq osq).os = W2 at *
        obtain ⟨f1, f2, f3⟩ := HF.out
        have F2 := Aside0.mk f2
        have F1 := Aside0.mk f1
        have F3 := Aside0.mk f3
        clear f1 f2 f3 fw
        gi_wp2_with (refine ⟨trivial, ?_⟩; gi_at_call 107; refine (CallsIn.inRound l (callsIn_wide.2 (bad_any F2.out 80))).mono ?_; rintro e w3 ⟨rfl, rfl⟩)
        have g4 := only_then F1.out (only_badW W2 rb (popR r0) 80)
        refine ⟨OUT.out _ g4, trivial, only_then H1.out g4, ?_, blk_grown F3.out (only_badW W2 rb (popR r0) 80) (by intro e; cases e; omega)⟩
        rw [HT.out, HR.out]
        exact (F2.out.bad 80).1
      · have HQ := Lib.hid hq
        have cF := cF.out _ hq
        clear hq
        have HR : Hid (takes p r0 x = popR r0) := Lib.hid (by unfold takes; rw [if_neg (by rw [HQ.out]; simp)])
        refine wpIn_region_round (by assumption) (by kernel_rfl) (by kernel_rfl) ?_
        repeat (quiet_step_in (first | exact ⟨fun _ => hd, cH _ _⟩ | exact ⟨fun _ => hd, cF _ _⟩ | exact cH _ _ | exact cF _ _))
        refine wpQuietIn_nil ?_
        intro _ hw'
        obtain ⟨⟨dq, osq⟩, hw''⟩ := hw'
        subst hw''
        obtain ⟨f1, f2, f3⟩ := (FIN.out dq osq).out
        gi_wp2
        refine ⟨OUT.out _ f1, trivial, only_then H1.out f1, ?_, f3⟩
        rw [HT.out, HR.out]
        exact f2
    · have he' : ((popR r0).e == 0) = false := by rw [beq_eq_false_iff_ne]; exact he
      have HE := Lib.hid he
      clear he
      have HR : Hid (takes p r0 x = popR r0) := Lib.hid (by unfold takes; rw [if_neg (fun h => HE.out h.1)])
      refine wpIn_region_round (by assumption) (by kernel_rfl) (by kernel_rfl) ?_
      repeat (quiet_step_in (first | exact ⟨fun _ => hd, cH _ _⟩ | exact cH _ _))
      refine wpQuietIn_nil ?_
      intro _ hw'
      obtain ⟨⟨dq, osq⟩, hw''⟩ := hw'
      subst hw''
      obtain ⟨f1, f2, f3⟩ := (FIN.out dq osq).out
      gi_wp2
      refine ⟨OUT.out _ f1, trivial, only_then H1.out f1, ?_, f3⟩
      rw [HT.out, HR.out]
      exact f2
  case done =>
    rintro D ys W hD rfl ⟨h1, h2, h3⟩ hK
    gi_wp2
    refine ⟨by simp, .inl ⟨_, _, rfl, run_takeDeferred hK, ?_⟩⟩
    obtain ⟨k1, k2, k3⟩ := own (R := fun _ _ => True) [t] W _ (some D) ⟨h1, h2, h3⟩ (grownBy_putObj' W D (.deferred none)) (fun k e => by cases e; exact ⟨hD, _, hK, rfl⟩)
    exact ⟨_, results_none rfl _ _ _, rfl, k2, k1⟩
  case stop =>
    rintro D c pre W hD _ h _
    exact h.elim
end Go.Proofs.Ytpdjkclacbgneaa
