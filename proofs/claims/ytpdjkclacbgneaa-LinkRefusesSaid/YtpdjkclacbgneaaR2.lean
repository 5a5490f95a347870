/- link's slots and Field. -/
import Derived.RangeFuncNested
import Derived.RangeFuncBound
import Derived.RangeFuncCalls
import Derived.RangeFuncLeaves
import Derived.Shelf.Abstract
import Derived.Shelf.RegionOpen
import Derived.WalkKit
import Derived.OwnWalkIn
import Derived.TacticsInMore
import Derived.LoopNIn
import Derived.LoopIn
import Derived.Test.YtpdjkclacbgneaaVTake
import Derived.Test.YtpdjkclacbgneaaTyp
import Derived.Test.YtpdjkclacbgneaaPool
import Derived.Test.YtpdjkclacbgneaaVDo4
import Derived.BigRegionIn
import Derived.Stop.RegionWithIn
import Derived.Test.YtpdjkclacbgneaaVMet2
set_option linter.unusedVariables false
set_option linter.unusedSimpArgs false
namespace Go.Proofs.Ytpdjkclacbgneaa
open Go.RowKit Go.Shelf Go.Proofs.YtpdjkclacbgneaaW.PrintWords Go.Proofs.Ytpdjkclacbgneaa.Pl
attribute [local go_sem] Oper.semAt_some

abbrev SLT : TypeId := 52
def fls (l : List Sl) : List Value := l.flatMap slCs
def OwnSl (B : Nat) (w : World) (v : Value) (l : List Sl) : Prop := w.ownsRow B SLT 6 v l.length (fls l)
theorem fls_len (l : List Sl) : (fls l).length = l.length * 6 := by
  induction l with
  | nil => rfl
  | cons a r ih => rw [fls, List.flatMap_cons, List.length_append]; rw [fls] at ih; rw [ih]; simp [slCs]; omega
theorem fls_app (l m : List Sl) : fls (l ++ m) = fls l ++ fls m := by simp [fls]
theorem OwnSl.below {B : Nat} {w w1 : World} {v : Value} {l : List Sl} (h : OwnSl B w v l) (hb : Below w.heap.size w w1) : OwnSl B w1 v l := pw_own_below h hb
theorem slInfo : (Try.prog.info? SLT).map (fun i => (i.zero.map Value.cells, i.size, decide (i.bytes ≤ 200), i.zero.isSome)) = some (some #[.string ⟨#[]⟩, .string ⟨#[]⟩, .int .i64 0, .string ⟨#[]⟩, .bool false, .int .i64 0], 6, true, true) := by kernel_rfl
theorem app_sl1 {B : Nat} {W : World} {v : Value} {l : List Sl} (s : Sl) (h : OwnSl B W v l) (hB : B ≤ W.heap.size) (hl : l.length ≤ 1000) :
    ∃ v1 w1, (Builtin.append_ #[56, 56] 56 #[v, .slice (some ⟨W.heap.size, 0, none⟩) 1 1]).run Try.prog (W.alloc (.cells (slCs s).toArray SLT)) = .ok v1 w1 ∧ OwnSl B w1 v1 (l ++ [s]) ∧ W.grownBy w1 v.ownBlock := by
  obtain ⟨i0, hi, hzz⟩ := Option.map_eq_some_iff.1 slInfo
  simp only [Prod.mk.injEq, decide_eq_true_eq] at hzz
  obtain ⟨hz0, hz1, hz2, hz3⟩ := hzz
  obtain ⟨z, hz⟩ := Option.isSome_iff_exists.1 hz3
  rw [hz] at hz0
  simp only [Option.map_some, Option.some.injEq] at hz0
  have hb := balloc W (.cells (slCs s).toArray SLT)
  have hst : Try.prog.underlying 56 = some (.slice SLT) := Try.underlying56
  have hby : (l.length + 1) * i0.bytes ≤ 140737488355328 := by
    have h1 : (l.length + 1) * i0.bytes ≤ 1001 * 200 := Nat.mul_le_mul (by omega) hz2
    omega
  obtain ⟨v1, w1, hrun, h2, hg, _, hat⟩ := run_append_own_at (P := Try.prog) (w := W.alloc (.cells (slCs s).toArray SLT)) B 56 56 SLT i0 z 6 i0.bytes hst hi hz hz1 rfl (by rw [hz0]; rfl) (by decide) v l.length (fls l) (h.below hb) ⟨W.heap.size, 0, none⟩ 1 1 (slCs s) rfl
    (World.news_of_block (blk_new W _)) (fun u hu => by
      simp only [slCs, List.mem_cons, List.not_mem_nil, or_false] at hu
      rcases hu with rfl | rfl | rfl | rfl | rfl | rfl <;> rfl) (by simp only [maxLen]; omega) hby (Nat.le_trans hB hb.size)
  refine ⟨v1, w1, hrun, ?_, World.grownBy.trans (World.grownBy_alloc W _ _) hg⟩
  unfold OwnSl
  rw [fls_app, List.length_append, show fls [s] = slCs s by simp [fls]]
  exact h2
theorem fls_at : ∀ (l : List Sl) (j : Nat) (t : Sl), l[j]? = some t → ((fls l).drop (j * 6)).take 6 = slCs t
  | [], j, t, h => by simp at h
  | a :: r, 0, t, h => by
    rw [List.getElem?_cons_zero] at h
    cases h
    simp [fls, slCs]
  | a :: r, j + 1, t, h => by
    rw [List.getElem?_cons_succ] at h
    have := fls_at r j t h
    rw [fls] at this ⊢
    rw [List.flatMap_cons, show (j + 1) * 6 = (slCs a).length + j * 6 by simp [slCs]; omega, List.drop_length_add_append]
    exact this
/-! ### slices.Backward of strings -/
theorem backB_in (F : Fence) (n : Nat) (hf : F.fn 41) (hro : F.round = none) (s : Value) (hs : ∃ A m c, s = .slice A m c) (w : World) :
    CallsIn F n Try.prog 41 #[s] w fun e w' => e = .returned (.func (.func 68) #[] #[.pointer (some ⟨w.heap.size, 0, none⟩)]) ∧ w' = w.alloc (.cells #[s] 55) := by
  obtain ⟨A, m, c, rfl⟩ := hs
  refine callsIn_of_wp Try.func41 rfl hf ?_ hro
  simp only [Try.ntmps41, List.size_toArray, List.length_cons, List.length_nil, Nat.reduceAdd, Nat.reduceSub, Array.replicate_succ, Array.replicate_zero, List.push_toArray, List.append_toArray, List.nil_append, List.cons_append]
  gi_wp2
  go_ret
  exact ⟨rfl, rfl⟩
/-- What the iterator reads stays. -/
def KpB (Bn : Nat) (ad : Addr) (A B : World) : Prop := B.cell? ⟨Bn, 0, none⟩ = A.cell? ⟨Bn, 0, none⟩ ∧ ∀ j, B.cell? (ad.add j) = A.cell? (ad.add j)
set_option maxRecDepth 100000 in
set_option maxHeartbeats 1000000 in
theorem backS_in (F : Fence) (n : Nat) (hf : F.fn 68) (hro : F.round = none) (hn : 1 ≤ n) (l Bn : Nat) (ad : Addr) (c : Nat) (ns : List Nm) (J Jx : List (Int × Nm) → World → Prop)
    (hY : ∀ pre x W, J pre W → pre.length < ns.length → YieldAt F (n - 1) Try.prog l #[.int .i64 x.1, .string x.2] W fun e W' =>
      (e = .returned (.bool true) ∧ J (pre ++ [x]) W' ∧ KpB Bn ad W W') ∨ (e = .returned (.bool false) ∧ Jx (pre ++ [x]) W'))
    (W : World) (hlen : ns.length ≤ 1000) (A : Option Addr) (hA : 0 < ns.length → A = some ad) (hBn : W.cell? ⟨Bn, 0, none⟩ = some (.slice A ns.length c)) (hN : ∀ (j : Nat) (s : Nm), ns[j]? = some s → W.cell? (ad.add j) = some (.string s)) (h0 : J [] W) :
    CallsIn F n Try.prog 68 #[.func (.yield l) #[] #[], .pointer (some ⟨Bn, 0, none⟩)] W fun e W' => (∃ v, e = .returned v) ∧
      ((∃ ys, ys.map (·.2) = ns.reverse ∧ J ys W') ∨ (∃ pre, True ∧ Jx pre W')) := by
  refine callsIn_of_wp Try.func68 rfl hf ?_ hro
  simp only [Try.ntmps68, List.size_toArray, List.length_cons, List.length_nil, Nat.reduceAdd, Nat.reduceSub, Array.replicate_succ, Array.replicate_zero, List.push_toArray, List.append_toArray, List.nil_append, List.cons_append]
  have HY := Aside0.mk hY
  have H0 := Aside0.mk h0
  have HN := Aside0.mk hN
  have HA := Aside0.mk hA
  obtain ⟨m, hm⟩ : ∃ m, ns.length = m := ⟨_, rfl⟩
  rw [hm] at hBn hlen
  have HM := Lib.hid hm
  have HBN := Aside0.mk hBn
  clear hY h0 hN hA hm
  gi_wp2
  gi_loopw [3] (fun s3 wr => ∃ (k : Nat) (pre : List (Int × Nm)), k ≤ m ∧ s3 = .int .i64 ((m : Int) - 1 - k) ∧ Aside0 (pre.length = k ∧ pre.map (·.2) = ns.reverse.take k ∧ J pre wr) ∧ wr.cell? ⟨Bn, 0, none⟩ = some (.slice A m c) ∧ Aside0 (∀ j, wr.cell? (ad.add j) = W.cell? (ad.add j))) (fun s3 _ => (intOf s3 + 1).toNat)
  case atStart => exact ⟨0, [], Nat.zero_le _, by simp, ⟨rfl, rfl, H0.out⟩, HBN.out, ⟨fun _ => rfl⟩⟩
  case round =>
    obtain ⟨k, pre, hk, rfl, HP, hb, HC⟩ := hrel
    clear hBn
    by_cases hlt : k < m
    · have hz : (m : Int) - 1 - k ≥ 0 := by omega
      obtain ⟨j, hj⟩ : ∃ j : Nat, (m : Int) - 1 - k = j := ⟨m - 1 - k, by omega⟩
      have hjm : j < m := by omega
      obtain ⟨x, hx⟩ : ∃ x, ns[j]? = some x := ⟨_, List.getElem?_eq_getElem (by have := HM.out; omega)⟩
      have hA1 := HA.out (by have := HM.out; omega)
      subst hA1
      have hcell : wr.cell? (ad.add j) = some (.string x) := (HC.out j).trans (HN.out j x hx)
      have hj0 : (0 : Int) ≤ (j : Int) := by omega
      have hjz : (j : Int) < (m : Int) := by omega
      rw [hj] at hz ⊢
      have HX := Aside0.mk hx
      have HJ := Lib.hid hj
      have HLT := Lib.hid hlt
      have hnx : ns.reverse.take (k + 1) = ns.reverse.take k ++ [x] := by
        have h1 : ns.reverse[k]? = some x := by
          rw [List.getElem?_reverse (by have := HM.out; omega)]
          rw [show ns.length - 1 - k = j by have := HM.out; omega]
          exact hx
        rw [List.take_add_one, h1]
        rfl
      have HNX := Lib.hid hnx
      obtain ⟨fn, tmps, assign, body, hy, hR⟩ := HY.out pre ((j : Int), x) wr HP.out.2.2 (by have := HP.out.1; have := HM.out; omega)
      clear hx hnx hj hlt
      gi_wp2
      refine hR.mono ?_
      rintro e W3 (⟨rfl, hJ3, hk1, hk2⟩ | ⟨rfl, hJx3⟩)
      · have HP3 : Aside0 ((pre ++ [((j : Int), x)]).length = k + 1 ∧ (pre ++ [((j : Int), x)]).map (·.2) = ns.reverse.take (k + 1) ∧ J (pre ++ [((j : Int), x)]) W3) := ⟨by rw [List.length_append, HP.out.1]; rfl, by rw [List.map_append, HP.out.2.1, HNX.out]; rfl, hJ3⟩
        have hb3 : W3.cell? ⟨Bn, 0, none⟩ = some (.slice (some ad) m c) := hk1.trans hb
        have HC3 : Aside0 (∀ j, W3.cell? (ad.add j) = W.cell? (ad.add j)) := ⟨fun i => (hk2 i).trans (HC.out i)⟩
        clear hJ3 hk1 hk2 hb hcell hy hR
        gi_wp2
        go_roundw
        case rel => exact ⟨k + 1, _, HLT.out, by have := HJ.out; congr 1; omega, HP3, hb3, HC3⟩
        case measure => simp [intOf] <;> omega
      · gi_wp2
        refine bodyPost_ret (results_none rfl _ _ _) rfl ?_
        exact ⟨⟨_, rfl⟩, .inr ⟨_, trivial, hJx3⟩⟩
    · have hkm : k = m := by omega
      have hz : ¬ (m : Int) - 1 - k ≥ 0 := by omega
      have hP := HP.out
      rw [hkm, List.take_of_length_le (by rw [List.length_reverse, HM.out]; exact Nat.le_refl _)] at hP
      have HP2 := Aside0.mk hP
      clear hP hlt hkm
      gi_wp2
      go_end0
      exact ⟨⟨_, rfl⟩, .inl ⟨pre, HP2.out.2.1, HP2.out.2.2⟩⟩
end Go.Proofs.Ytpdjkclacbgneaa
namespace Go.Proofs.Ytpdjkclacbgneaa
open Go.RowKit Go.Shelf Go.Proofs.YtpdjkclacbgneaaW.PrintWords Go.Proofs.Ytpdjkclacbgneaa.Pl
attribute [local go_sem] Oper.semAt_some

theorem words_two (t : Ty) : 0 ≤ words t ∧ words t ≤ 2 := by
  unfold words
  split
  · decide
  · split <;> decide
theorem slotsIn_add (p : Pg) (n : Nm) (f : Pl.Fd) : ∀ (fs : List Pl.Fd) (l : List Sl) (a : Int), slotsIn p l a n (fs ++ [f]) = ((slotsIn p l a n fs).1 ++ [⟨n, f, (slotsIn p l a n fs).2⟩], (slotsIn p l a n fs).2 + words f.ty)
  | [], l, a => rfl
  | g :: r, l, a => by
    rw [List.cons_append, slotsIn, slotsIn_add p n f r]
    rfl
theorem slotsOn_add (p : Pg) (x : Nm) : ∀ (ns : List Nm) (l : List Sl) (a : Int), slotsOn p l a (ns ++ [x]) = slotsIn p (slotsOn p l a ns).1 (slotsOn p l a ns).2 x (clsOf p x).fields
  | [], l, a => by rw [List.nil_append, slotsOn, slotsOn, slotsOn]
  | n :: r, l, a => by rw [List.cons_append, slotsOn, slotsOn_add p x r, slotsOn]
/-- How many, and how far. -/
def SlB (k : Nat) (r : List Sl × Int) : Prop := r.1.length ≤ k ∧ 0 ≤ r.2 ∧ r.2 ≤ 2 * k
theorem slotsIn_b (p : Pg) (n : Nm) : ∀ (fs : List Pl.Fd) (k : Nat) (l : List Sl) (a : Int), SlB k (l, a) → SlB (k + fs.length) (slotsIn p l a n fs)
  | [], k, l, a, h => h
  | f :: r, k, l, a, h => by
    obtain ⟨h1, h2, h3⟩ := h
    have hw := words_two f.ty
    have := slotsIn_b p n r (k + 1) (l ++ [⟨n, f, a⟩]) (a + words f.ty) ⟨by simp only [List.length_append, List.length_cons, List.length_nil] at h1 ⊢; omega, by simp only at h2 ⊢; omega, by simp only at h3 ⊢; omega⟩
    rw [slotsIn, List.length_cons, show k + (r.length + 1) = k + 1 + r.length by omega]
    exact this
theorem slotsOn_b (p : Pg) (h8 : ∀ n, (clsOf p n).fields.length ≤ 8) : ∀ (ns : List Nm) (k : Nat) (l : List Sl) (a : Int), SlB k (l, a) → SlB (k + 8 * ns.length) (slotsOn p l a ns)
  | [], k, l, a, h => h
  | n :: r, k, l, a, h => by
    have h1 := slotsIn_b p n (clsOf p n).fields k l a h
    have h2 : SlB (k + 8) (slotsIn p l a n (clsOf p n).fields) := by
      obtain ⟨b1, b2, b3⟩ := h1
      have := h8 n
      exact ⟨by omega, b2, by omega⟩
    have := slotsOn_b p h8 r (k + 8) _ _ h2
    rw [slotsOn, List.length_cons, show k + 8 * (r.length + 1) = k + 8 + 8 * r.length by omega]
    exact this
theorem ancK_len (h : Hier) : ∀ (k : Nat) (n : Nm), (anc h k n).length ≤ k + 1
  | 0, n => Nat.le_refl _
  | k + 1, n => by
    rw [anc]
    split
    · simp
    · have   := ancK_len h k (sup h n)
      rw [List.length_cons]
      omega
theorem ancestors_len (h : Hier) (n : Nm) (hs : h.length ≤ 18) : (ancestors h n).length ≤ 20 := by
  unfold ancestors
  split
  · simp
  · have := ancK_len h (h.length + 1) n
    omega
theorem wpListIn_append_E {F : Fence} {nF : Nat} {P : Program} {ops : Array Oper} {rest : List Oper} {o : Oper} {a : Act} {Q : Exit → Act → World → Prop} {W w1 : World} {v u v1 : Value} (hgd : o.guard = none) (s x : Operand) (t : TypeId)
    (ho : o.op = .call { callee := .builtin .append, args := #[s, x], argTypes := #[t, t] }) (hs : a.eval s = v) (hx : a.eval x = u) (hr : (Builtin.append_ #[t, t] o.type #[v, u]).run P W = .ok v1 w1)
    (h : wpListIn F nF P ops Q rest (a.put o.dst v1) w1) : wpListIn F nF P ops Q (o :: rest) a W := by
  refine wpListIn_plain hgd fun K hK => ?_
  unfold Oper.wpIn
  refine ⟨by simp [Oper.about, ho, resolve, Target.leads, Sem.run_pure], ?_⟩
  rw [Oper.semAt_plain F _ _ (by rw [ho]; intro c hc'; cases hc')]
  simp [execOp, ho, resolve, invoke, builtin, hs, hx, hr, Result.andThen]
  exact hK _ _ h
theorem cell_of_blk {X Y : World} {a : Addr} (h : Y.heap[a.block]? = X.heap[a.block]?) : Y.cell? a = X.cell? a := by
  unfold World.cell?
  rw [h]
/-- A region that draws its order, in a round: its orders, outside. -/
theorem wpIn_region_any_round {n : Nat} {P : Program} {id l : Nat} {Q : Exit → Act → World → Prop} {a : Act} {w : World} {ops : List Oper} (hm : P.follows .mixedOrders = true) (hd : noDefer ops = true)
    (h : wpAnyIn Fence.wide n P .any ops.toArray Q ops.toArray.size (Array.replicate ops.toArray.size false) a w.drew) : (Code.region id ops.toArray true).wpIn (Fence.wide.inRound l) n P Q a w :=
  wpIn_region_any hm (wpAnyIn_inRound l (noDefer_spec hd) _ _ _ _ h)
/-- The state of slots. -/
structure SlSt (pb : Nat) (w W : World) (l : List Sl) (at_ : Int) : Prop where
  bel : Below w.heap.size w W
  ptr : W.heap[w.heap.size]? = some (.cells #[.pointer (some ⟨pb, 0, none⟩)] 41 (0, 0))
  out : ∃ v, W.heap[w.heap.size + 1]? = some (.cells #[v] 56 (0, 0)) ∧ OwnSl w.heap.size W v l
  far : W.heap[w.heap.size + 1 + 1]? = some (.cells #[.int .i64 at_] 3 (0, 0))
theorem SlSt.below {pb : Nat} {w W W1 : World} {l : List Sl} {a : Int} (h : SlSt pb w W l a) (hb : Below W.heap.size W W1) : SlSt pb w W1 l a := by
  obtain ⟨h1, h2, ⟨v, h3, h4⟩, h5⟩ := h
  exact ⟨bthen h1 hb, blk_below h2 hb, ⟨v, blk_below h3 hb, h4.below hb⟩, blk_below h5 hb⟩
theorem SlSt.kept {pb : Nat} {w X Y : World} {l : List Sl} {a : Int} {row : Option Nat} (h : SlSt pb w X l a) (hg : X.grownBy Y row) (hr : ∀ k, row = some k → w.heap.size ≤ k ∧ ∃ o : Obj, X.heap[k]? = some o ∧ o.isCells = false) : SlSt pb w Y l a := by
  obtain ⟨h1, h2, ⟨v, h3, h4⟩, h5⟩ := h
  have key : ∀ (k : Nat) (cs : Array Value) (t : TypeId), X.heap[k]? = some (Obj.cells cs t (0, 0)) → Y.heap[k]? = some (Obj.cells cs t (0, 0)) := fun k cs t hk => (hg.block k (blk_lt hk) (fun e => by
    obtain ⟨_, o, ho, hc⟩ := hr k e.symm
    rw [hk] at ho
    cases ho
    cases hc)).trans hk
  refine ⟨pw_below_grown h1 row h1.size hg (fun k e => (hr k e).1), key _ _ _ h2, ⟨v, key _ _ _ h3, own_move h4 (fun k hk => ?_)⟩, key _ _ _ h5⟩
  obtain ⟨cs, hc⟩ := own_typed h4 k hk
  exact (key _ _ _ hc).trans hc.symm
/-- A slot is appended. -/
theorem SlSt.more {pb : Nat} {w W w1 : World} {l l1 : List Sl} {a : Int} {v v1 : Value} (h : SlSt pb w W l a) (h3 : W.heap[w.heap.size + 1]? = some (.cells #[v] 56 (0, 0))) (h4 : OwnSl w.heap.size W v l) (ho : OwnSl w.heap.size w1 v1 l1) (hg : W.grownBy w1 v.ownBlock) : SlSt pb w (w1.setCell ⟨w.heap.size + 1, 0, none⟩ v1) l1 a := by
  obtain ⟨h1, h2, _, h5⟩ := h
  have k2 := blk_grown h2 hg (own_ne h4 h2 (by decide))
  have k3 := blk_grown h3 hg (own_ne h4 h3 (by decide))
  have k5 := blk_grown h5 hg (own_ne h4 h5 (by decide))
  refine ⟨set_low (pw_below_grown h1 _ h1.size hg (fun k e => own_base h4 k e)) (Nat.le_succ _) _, ?_, ⟨v1, by rw [heap_set k3]; rfl, own_setCell ho (p := ⟨w.heap.size + 1, 0, none⟩) (own_ne ho k3 (by decide)) _⟩, ?_⟩
  · rw [Below.heap_setCell _ _ _ _ (by simp)]; exact k2
  · rw [Below.heap_setCell _ _ _ _ (by simp)]; exact k5
theorem SlSt.go {pb : Nat} {w W : World} {l : List Sl} {a : Int} (h : SlSt pb w W l a) (b : Int) : SlSt pb w (W.setCell ⟨w.heap.size + 1 + 1, 0, none⟩ (.int .i64 b)) l b := by
  obtain ⟨h1, h2, ⟨v, h3, h4⟩, h5⟩ := h
  refine ⟨set_low h1 (by omega) _, ?_, ⟨v, ?_, own_setCell h4 (p := ⟨w.heap.size + 1 + 1, 0, none⟩) (own_ne h4 h5 (by decide)) _⟩, by rw [heap_set h5]; rfl⟩
  · rw [Below.heap_setCell _ _ _ _ (by simp; omega)]; exact h2
  · rw [Below.heap_setCell _ _ _ _ (by simp)]; exact h3
theorem SlSt.cells {pb : Nat} {w W : World} {l : List Sl} {a : Int} (h : SlSt pb w W l a) : W.cell? ⟨w.heap.size, 0, none⟩ = some (.pointer (some ⟨pb, 0, none⟩)) ∧ W.cell? ⟨w.heap.size + 1 + 1, 0, none⟩ = some (.int .i64 a) ∧ W.frozen? ⟨w.heap.size + 1 + 1, 0, none⟩ = false :=
  ⟨Bx.cell ⟨h.ptr⟩ (j := 0) rfl, Bx.cell ⟨h.far⟩ (j := 0) rfl, blk_frozen h.far 0⟩
set_option maxRecDepth 100000 in
set_option maxHeartbeats 4000000 in
theorem slots_in (pb : Nat) (p : Pg) (name : Nm) (w : World) (H : ProgIs w pb p) (h8 : ∀ n, (clsOf p n).fields.length ≤ 8) :
    CallsIn Fence.wide 8 Try.prog 36 #[.pointer (some ⟨pb, 0, none⟩), .string name] w fun e w' => ∃ v, e = .returned (.tuple #[v, .int .i64 (slots p name).2]) ∧ OwnSl w.heap.size w' v (slots p name).1 ∧ Below w.heap.size w w' := by
  have HH := Aside0.mk H
  have hpb := H.lt
  have H8 := Aside0.mk h8
  obtain ⟨hgood, ⟨g, hg, hI⟩, _⟩ := H
  have hsm := ancestors_len p.h name hI.small
  have hAN : ∀ W, Below w.heap.size w W → _ := fun W hb => ancestors_any g p.h name W (hI.below hb) (hgood name)
  have HAN := Aside0.mk hAN
  obtain ⟨ns, hns⟩ : ∃ ns, ancestors p.h name = ns := ⟨_, rfl⟩
  have HNS := Lib.hid hns
  have hsl : slots p name = slotsOn p [] 0 ns.reverse := by unfold slots; rw [hns]
  rw [hsl]
  obtain ⟨W3, hW3⟩ : ∃ W3, ((w.alloc (.cells #[.pointer (some ⟨pb, 0, none⟩)] 41)).alloc (.cells #[.slice none 0 0] 56)).alloc (.cells #[.int .i64 0] 3) = W3 := ⟨_, rfl⟩
  have hb3 : Below w.heap.size w W3 := by rw [← hW3]; exact bthen (bthen (balloc _ _) (balloc _ _)) (balloc _ _)
  have S3 : SlSt pb w W3 [] 0 := by
    refine ⟨hb3, ?_, ⟨.slice none 0 0, ?_, own_nil _ _ _ _⟩, ?_⟩
    · rw [← hW3]; exact blk_alloc (blk_alloc (blk_new w _) _) _
    · rw [← hW3]; exact blk_alloc (blk_second w _ _) _
    · rw [← hW3]
      have := blk_new ((w.alloc (.cells #[.pointer (some ⟨pb, 0, none⟩)] 41)).alloc (.cells #[.slice none 0 0] 56)) (.cells #[.int .i64 0] 3)
      rwa [World.size_alloc, World.size_alloc] at this
  have hg3 := pw_cell_below hb3 hg
  obtain ⟨x0, x1, xf⟩ := S3.cells
  obtain ⟨W4, hW4⟩ : ∃ W4, W3.setCell ⟨w.heap.size + 1 + 1, 0, none⟩ (.int .i64 0) = W4 := ⟨_, rfl⟩
  have S4 : SlSt pb w W4 [] 0 := by rw [← hW4]; exact S3.go 0
  have S4 := Aside0.mk S4
  have hg4 := pw_cell_below S4.out.bel hg
  obtain ⟨y0, y1, yf⟩ := S4.out.cells
  clear hgood hI hAN hns hsl h8 hg hb3 S3
  refine callsIn_of_wp_marks Try.func36 rfl trivial ?_ rfl
  simp only [Try.ntmps36, List.size_toArray, List.length_cons, List.length_nil, Nat.reduceAdd, Nat.reduceSub, Array.replicate_succ, Array.replicate_zero, List.push_toArray, List.append_toArray, List.nil_append, List.cons_append]
  gi_wp2_with (refine ⟨trivial, ?_⟩; gi_at_call 40; refine (callsIn_wide.2 (HAN.out W4 S4.out.bel)).mono ?_; rintro e w4 ⟨v, rfl, hrow, hb4⟩)
  obtain ⟨A, c, rfl, hc, hC⟩ := Kd.R_reads hrow
  rw [HNS.out] at hC hsm ⊢
  gi_wp2_with (refine ⟨trivial, ?_⟩; gi_at_call 41; refine (backB_in Fence.wide 7 trivial rfl _ ⟨_, _, _, rfl⟩ _).mono ?_; rintro e w5 ⟨rfl, rfl⟩)
  have hs4 := S4.out.bel.size
  have hs44 := hb4.size
  have hlt7 : w.heap.size + 1 + 1 < W4.heap.size := blk_lt S4.out.far
  obtain ⟨W5, hW5⟩ : ∃ W5, w4.alloc (.cells #[.slice A ns.length c] 55) = W5 := ⟨_, rfl⟩
  have hb5 : Below w4.heap.size w4 W5 := by rw [← hW5]; exact balloc _ _
  have hB5 : W5.heap[w4.heap.size]? = some (.cells #[.slice A ns.length c] 55 (0, 0)) := by rw [← hW5]; exact blk_new _ _
  obtain ⟨inner, hown⟩ := Kd.R_own hrow
  rw [HNS.out] at hown
  obtain ⟨ad, csA, tA, hA, hblkA, htA, hadA⟩ : ∃ (ad : Addr) (csA : Array Value) (tA : TypeId), (0 < ns.length → A = some ad) ∧ W5.heap[ad.block]? = some (.cells csA tA (0, 0)) ∧ SLT ≠ tA ∧ W4.heap.size ≤ ad.block := by
    by_cases h0 : 0 < ns.length
    · obtain ⟨ad, e, _⟩ := hC.2.2 h0
      subst e
      obtain ⟨cs, hcs⟩ := own_typed hown ad.block rfl
      exact ⟨ad, cs, _, fun _ => rfl, blk_below hcs hb5, by decide, own_base hown ad.block rfl⟩
    · exact ⟨⟨w4.heap.size, 0, none⟩, _, _, fun h => absurd h h0, hB5, by decide, hs44⟩
  have hN : ∀ (j : Nat) (s : Nm), ns[j]? = some s → W5.cell? (ad.add j) = some (.string s) := fun j s hj => by
    obtain ⟨ad', e, hc'⟩ := at_str hC hj
    have h0 : 0 < ns.length := by have := (List.getElem?_eq_some_iff.1 hj).1; omega
    rw [hA h0] at e
    cases e
    exact pw_cell_below hb5 hc'
  have hBn : W5.cell? ⟨w4.heap.size, 0, none⟩ = some (.slice A ns.length c) := Bx.cell ⟨hB5⟩ (j := 0) rfl
  have S5 : SlSt pb w W5 [] 0 := (S4.out.below hb4).below hb5
  rw [hW5]
  clear hW5 hrow hown hC HAN x0 x1 xf y0 y1 yf hg3 hg4
  have hsz5 : w4.heap.size < W5.heap.size := blk_lt hB5
  have hsz6 := blk_lt hblkA
  refine wpIn_rangeFunc_ownH (α := Int × Nm) rfl (by decide) (gf := 68) (lb := #[.pointer (some ⟨w4.heap.size, 0, none⟩)]) rfl trivial (enters_of Try.func68 (by kernel_rfl) rfl)
    (encs := fun x => #[.int .i64 x.1, .string x.2]) (Kp := KpB w4.heap.size ad) (S := fun ys => ys.map (·.2) = ns.reverse) (Sp := fun _ => True) (N := ns.length) (w0 := W5)
    (fun l J Jx W hW _ _ hY h0 => backS_in Fence.wide 7 trivial rfl (by decide) l w4.heap.size ad c ns J Jx hY W (by omega) A hA ((hW.cell (p := ⟨w4.heap.size, 0, none⟩) hsz5).trans hBn) (fun j s hj => (pw_cell_below hW (hN j s hj))) h0)
    (fun h k => ⟨k.1.trans h.1, fun j => (k.2 j).trans (h.2 j)⟩) (fun W l o o' hl _ _ _ => ?kb) (Below.refl _ _) (fun _ => rfl)
    (fun pre W => SlSt pb w W (slotsOn p [] 0 (pre.map (·.2))).1 (slotsOn p [] 0 (pre.map (·.2))).2 ∧ W.heap[w4.heap.size]? = some (.cells #[.slice A ns.length c] 55 (0, 0)) ∧ W.heap[ad.block]? = some (.cells csA tA (0, 0)))
    (fun _ _ _ => False)
    (fun s X Y row hs hg hr => ?own)
    (fun _ _ _ _ _ hs _ _ => hs)
    ⟨S5, hB5, hblkA⟩
    (fun x a' W => a' = { tmps := #[.pointer (some ⟨pb, 0, none⟩), .string name, .pointer (some ⟨w.heap.size, 0, none⟩), undef, .slice none 0 0, .int .i64 0, .pointer (some ⟨w.heap.size + 1, 0, none⟩), .pointer (some ⟨w.heap.size + 1 + 1, 0, none⟩), undef, .string x.2, undef, undef, .pointer (some ⟨pb, 0, none⟩), .pointer (some ⟨pb, 0, none⟩), .pointer (some ⟨pb, 0, none⟩), .pointer (some ⟨g, 0, none⟩), .string name, .slice A ns.length c, .func (.func 68) #[] #[.pointer (some ⟨w4.heap.size, 0, none⟩)], .int .i64 x.1, .string x.2, undef, undef, undef, undef, undef, undef, undef, undef, undef, undef, undef, undef, undef, undef, undef, undef, undef, undef, undef, undef, undef, undef, undef, undef, undef, undef, undef], defers := [] })
    (fun x a' _ X Y row hs hg hr => hs)
    ?assign ?body ?done ?stop
  case kb =>
    exact ⟨cell_of_blk (World.putObj_heap_other (by show w4.heap.size ≠ l; omega)), fun j => cell_of_blk (World.putObj_heap_other (by rw [add_block]; omega))⟩
  case own =>
    obtain ⟨h1, h2, h3⟩ := hs
    refine ⟨h1.kept hg (fun k e => ⟨by have := (hr k e).1; omega, (hr k e).2⟩), (hg.block _ (blk_lt h2) (fun e => ?_)).trans h2, (hg.block _ (blk_lt h3) (fun e => ?_)).trans h3⟩
    · have := (hr _ e.symm).1; omega
    · have := (hr _ e.symm).1; omega
  case assign =>
    rintro l pre x W K ⟨h1, h2, h3⟩ hK
    gi_wp2
    exact hK _ _ (KeepsFrom.refl _ _) ⟨rfl, fun _ => rfl⟩ ⟨h1, h2, h3⟩ rfl
  case body =>
    rintro l pre x a' W hl ⟨rr, hr⟩ ⟨h1, h2, h3⟩ rfl hlt
    obtain ⟨ix, x⟩ := x
    obtain ⟨r, hr0⟩ : ∃ r, slotsOn p [] 0 (pre.map (·.2)) = r := ⟨_, rfl⟩
    have hacc : slotsOn p [] 0 ((pre ++ [(ix, x)]).map (·.2)) = slotsIn p r.1 r.2 x (clsOf p x).fields := by rw [List.map_append, ← hr0]; exact slotsOn_add p x _ _ _
    have hrb : SlB 160 r := by
      have h := slotsOn_b p H8.out (pre.map (·.2)) 0 [] 0 ⟨Nat.le_refl _, Int.le_refl _, Int.le_refl _⟩
      rw [hr0, List.length_map] at h
      obtain ⟨b1, b2, b3⟩ := h
      exact ⟨by omega, b2, by omega⟩
    rw [hr0] at h1
    obtain ⟨_, _, b, vs, hbc0, hmap0, hcls⟩ := HH.out
    have hbc := pw_cell_below h1.bel hbc0
    have hmap := hmap0.below h1.bel
    have hT : Try.prog.underlying 91 = some (.map 9 72) := Try.underlying91
    have hKs : Try.prog.underlying 9 = some .string := Try.underlying9
    have hrf := run_fields
    obtain ⟨cs, hcs, hK⟩ : ∃ cs, Pl.look (.agg zCl.toArray) vs x = .agg cs.toArray ∧ clK.K w (clsOf p x) cs := hcls.look x
    obtain ⟨D0, e0, D1, e1, D2, e2, rfl, ⟨k0, k1, k2⟩, r0, r1, r2⟩ := clK_open hK
    have CFw := cells_fd r1
    have CF := CFw.below h1.bel
    have hlk : (Instr.lookup 91 (.map (some b)) (.string x) false).run Try.prog W = .ok (Pl.look (.agg zCl.toArray) vs x) W := run_look (P := Try.prog) (s := x) hmap hT hKs (z := .agg zCl.toArray) (by kernel_rfl) false
    rw [hcs] at hlk
    obtain ⟨fs, hfs⟩ : ∃ fs, (clsOf p x).fields = fs := ⟨_, rfl⟩
    have h8x := H8.out x
    rw [hfs] at hacc CF CFw h8x hlk
    obtain ⟨x0, x1, xf⟩ := h1.cells
    have HACC := Lib.hid hacc
    have HR := Aside0.mk hrb
    have H1 := Aside0.mk h1
    have H2 := Aside0.mk h2
    have H3 := Aside0.mk h3
    have hnf := CF.1
    have CW0 : Aside0 (Cells w D1 fs.length 4 (fun j => fdCs (fs.getD j default))) := ⟨CFw⟩
    clear hK hcls hmap hmap0 hbc0 CFw r0 r1 r2 hcs hfs hacc hrb h1 h2 h3
    gi_wp2
    gi_loopw [29] (fun s29 wr => ∃ j : Nat, j ≤ fs.length ∧ s29 = .int .i64 j ∧ Aside0 (SlSt pb w wr (slotsIn p r.1 r.2 x (fs.take j)).1 (slotsIn p r.1 r.2 x (fs.take j)).2) ∧ Aside0 (Below W5.heap.size W5 wr → True) ∧ Aside0 (wr.heap[w4.heap.size]? = some (.cells #[.slice A ns.length c] 55 (0, 0)) ∧ wr.heap[ad.block]? = some (.cells csA tA (0, 0)) ∧ KeepsOthers W wr) ∧ Aside0 (Cells wr D1 fs.length 4 (fun j => fdCs (fs.getD j default)))) (fun s29 _ => fs.length - (intOf s29).toNat)
    case atStart => exact ⟨0, Nat.zero_le _, rfl, H1, ⟨fun _ => trivial⟩, ⟨H2.out, H3.out, KeepsOthers.refl _⟩, ⟨CF⟩⟩
    case round =>
      obtain ⟨j, hj, rfl, HS, _, HB, HC⟩ := hrel
      clear x0 x1 xf CF
      by_cases hlt : j < fs.length
      · have hltz : (j : Int) < (fs.length : Int) := by omega
        have hj0 : (0 : Int) ≤ (j : Int) := by omega
        obtain ⟨adf, rfl, _⟩ := HC.out.2 (by omega)
        obtain ⟨f, hf⟩ : ∃ f, fs[j]? = some f := ⟨_, List.getElem?_eq_getElem hlt⟩
        have ef : fs.getD j default = f := by rw [List.getD_eq_getElem?_getD, hf]; rfl
        have l0 := HC.out.at0 hlt (v := .string f.name) (by rw [ef]; rfl)
        have l1 := HC.out.at_ (i := 1) hlt (by decide) (v := .int .i64 f.ty.kind) (by rw [ef]; rfl)
        have l2 := HC.out.at_ (i := 2) hlt (by decide) (v := .string f.ty.cls) (by rw [ef]; rfl)
        have l3 := HC.out.at_ (i := 3) hlt (by decide) (v := .bool f.vol) (by rw [ef]; rfl)
        obtain ⟨q, hq⟩ : ∃ q, slotsIn p r.1 r.2 x (fs.take j) = q := ⟨_, rfl⟩
        have hq1 : slotsIn p r.1 r.2 x (fs.take (j + 1)) = (q.1 ++ [⟨x, f, q.2⟩], q.2 + words f.ty) := by
          rw [List.take_add_one, hf, ← hq]
          exact slotsIn_add p x f _ _ _
        have hqb : SlB 170 q := by
          have h := slotsIn_b p x (fs.take j) 160 r.1 r.2 HR.out
          rw [hq, List.length_take] at h
          obtain ⟨b1, b2, b3⟩ := h
          exact ⟨by omega, b2, by omega⟩
        rw [hq] at HS
        have HQ1 := Lib.hid hq1
        clear hq1 hq
        obtain ⟨wr1, hwr1⟩ : ∃ wr1, wr.alloc (.cells #[.string f.name, .int .i64 f.ty.kind, .string f.ty.cls, .bool f.vol] 50) = wr1 := ⟨_, rfl⟩
        have hb1 : Below wr.heap.size wr wr1 := by rw [← hwr1]; exact balloc _ _
        have hfb : wr1.heap[wr.heap.size]? = some (.cells #[.string f.name, .int .i64 f.ty.kind, .string f.ty.cls, .bool f.vol] 50 (0, 0)) := by rw [← hwr1]; exact blk_new _ _
        have S1 := HS.out.below hb1
        obtain ⟨v, hv6, hown⟩ := S1.out
        obtain ⟨v1, w2, E1, o1, g1⟩ := app_sl1 ⟨x, f, q.2⟩ hown S1.bel.size (by have := hqb.1; omega)
        have S2 := S1.more hv6 hown o1 g1
        have y0 := Bx.cell ⟨hfb⟩ (j := 0) rfl
        have y1 := Bx.cell ⟨hfb⟩ (j := 1) rfl
        have y2 := Bx.cell ⟨hfb⟩ (j := 2) rfl
        have y3 := Bx.cell ⟨hfb⟩ (j := 3) rfl
        obtain ⟨z0, z1, zf⟩ := S1.cells
        have z6 : wr1.cell? ⟨w.heap.size + 1, 0, none⟩ = some v := Bx.cell ⟨hv6⟩ (j := 0) rfl
        have zf6 : w2.frozen? ⟨w.heap.size + 1, 0, none⟩ = false := blk_frozen (blk_grown hv6 g1 (own_ne hown hv6 (by decide))) 0
        have z62 : w2.cell? ⟨w.heap.size + 1, 0, none⟩ = some v := Bx.cell ⟨blk_grown hv6 g1 (own_ne hown hv6 (by decide))⟩ (j := 0) rfl
        have E1 : (Builtin.append_ #[56, 56] 56 #[v, .slice (some ⟨wr1.heap.size, 0, none⟩) 1 1]).run Try.prog (wr1.alloc (.cells #[.string x, .string f.name, .int .i64 f.ty.kind, .string f.ty.cls, .bool f.vol, .int .i64 q.2] SLT)) = .ok v1 w2 := E1
        obtain ⟨A1, c1, rfl⟩ := own_slice o1
        have hl1 : (q.1 ++ [(⟨x, f, q.2⟩ : Sl)]).length = q.1.length + 1 := by simp
        rw [hl1] at E1 S2
        have SD := Aside0.mk (S2.below (below_drew (Below.refl _ _)))
        have hty : (w2.setCell ⟨w.heap.size + 1, 0, none⟩ (.slice A1 (q.1.length + 1) c1)).drew.heap[wr.heap.size]? = some (.cells #[.string f.name, .int .i64 f.ty.kind, .string f.ty.cls, .bool f.vol] 50 (0, 0)) := by
          refine blk_drew ?_
          have h1 := blk_grown hfb g1 (own_ne hown hfb (by decide))
          have h2 : wr.heap.size ≠ w.heap.size + 1 := by
            intro e
            rw [e] at hfb
            rw [hfb] at hv6
            simp only [Option.some.injEq, Obj.cells.injEq] at hv6
            exact absurd hv6.2.1 (by decide)
          rw [Below.heap_setCell _ _ _ _ h2]
          exact h1
        obtain ⟨W9, hW9⟩ : ∃ W9, w2.setCell ⟨w.heap.size + 1, 0, none⟩ (.slice A1 (q.1.length + 1) c1) = W9 := ⟨_, rfl⟩
        have hN9 : W9.heap[w4.heap.size]? = some (.cells #[.slice A ns.length c] 55 (0, 0)) ∧ W9.heap[ad.block]? = some (.cells csA tA (0, 0)) := by
          rw [← hW9, Below.heap_setCell _ _ _ _ (by show w4.heap.size ≠ w.heap.size + 1; omega), Below.heap_setCell _ _ _ _ (by show ad.block ≠ w.heap.size + 1; omega)]
          have a1 := blk_below HB.out.1 hb1
          have a2 := blk_below HB.out.2.1 hb1
          exact ⟨blk_grown a1 g1 (own_ne hown a1 (by decide)), blk_grown a2 g1 (own_ne hown a2 htA)⟩
        have HN9 := Aside0.mk hN9
        rw [hW9] at SD hty
        have KO9 : KeepsOthers W W9 := by
          rw [← hW9]
          refine (HB.out.2.2.trans ((KeepsOthers.of_grownBy (grown_of_below hb1 none) (fun j o e => by cases e)).trans (KeepsOthers.of_grownBy g1 (fun j o e ho => ?_)))).trans (KeepsOthers.setCell _ _ _)
          obtain ⟨cs, hc9⟩ := own_typed hown j e
          rw [hc9] at ho
          cases ho
          rfl
        have KO9 := Aside0.mk KO9
        gi_wp2_with (gi_at_builtin; refine wpListIn_append_E rfl _ _ _ rfl rfl rfl E1 ?_)
        have u1 := Bx.cell ⟨hty⟩ (j := 1) rfl
        have u2 := Bx.cell ⟨hty⟩ (j := 2) rfl
        obtain ⟨d0, d1, df⟩ := SD.out.cells
        clear y0 y1 y2 y3 z0 z1 zf z6 zf6 z62 l0 l1 l2 l3
        have hwd := words_two f.ty
        have hb1' := hqb.2.1
        have hb2' := hqb.2.2
        gi_region_with (first
          | (refine ⟨trivial, ?_⟩; gi_at_call 67; refine (CallsIn.inRound l (callsIn_wide.2 (words_any f.ty W9.drew))).mono ?_; rintro e wx ⟨rfl, hbx⟩; have SX := Aside0.mk (SD.out.below hbx); obtain ⟨e0, e1, ef⟩ := SX.out.cells; have HBX := Aside0.mk hbx; clear hbx))
        all_goals
          have HF := Aside0.mk (SX.out.go (q.2 + words f.ty))
          have HBB : Aside0 ((wx.setCell ⟨w.heap.size + 1 + 1, 0, none⟩ (.int .i64 (q.2 + words f.ty))).heap[w4.heap.size]? = some (.cells #[.slice A ns.length c] 55 (0, 0)) ∧ (wx.setCell ⟨w.heap.size + 1 + 1, 0, none⟩ (.int .i64 (q.2 + words f.ty))).heap[ad.block]? = some (.cells csA tA (0, 0)) ∧ KeepsOthers W (wx.setCell ⟨w.heap.size + 1 + 1, 0, none⟩ (.int .i64 (q.2 + words f.ty)))) := ⟨by
            rw [Below.heap_setCell _ _ _ _ (by show w4.heap.size ≠ w.heap.size + 1 + 1; omega), Below.heap_setCell _ _ _ _ (by show ad.block ≠ w.heap.size + 1 + 1; omega)]
            exact ⟨blk_below (blk_drew HN9.out.1) HBX.out, blk_below (blk_drew HN9.out.2) HBX.out, ((KO9.out.trans (KeepsOthers.drew _)).trans (KeepsOthers.of_grownBy (grown_of_below HBX.out none) (fun j o e => by cases e))).trans (KeepsOthers.setCell _ _ _)⟩⟩
          have HCC : Aside0 (Cells (wx.setCell ⟨w.heap.size + 1 + 1, 0, none⟩ (.int .i64 (q.2 + words f.ty))) (some adf) fs.length 4 (fun j => fdCs (fs.getD j default))) := ⟨CW0.out.below HF.out.bel⟩
          have HF2 : Aside0 (SlSt pb w (wx.setCell ⟨w.heap.size + 1 + 1, 0, none⟩ (.int .i64 (q.2 + words f.ty))) (slotsIn p r.1 r.2 x (fs.take (j + 1))).1 (slotsIn p r.1 r.2 x (fs.take (j + 1))).2) := ⟨by rw [HQ1.out]; exact HF.out⟩
          clear d0 d1 df e0 e1 ef u1 u2 hW9
          gi_wp2
          go_roundw
          case rel => exact ⟨j + 1, hlt, by go_num, HF2, ⟨fun _ => trivial⟩, HBB, HCC⟩
          case measure => simp [intOf]; omega
      · have hltz : ¬ (j : Int) < (fs.length : Int) := by omega
        have hjn : j = fs.length := by omega
        have hS := HS.out
        rw [hjn, List.take_length, ← HACC.out] at hS
        have HS2 := Aside0.mk hS
        clear hS HS
        gi_wp2
        refine ⟨HB.out.2.2.from _, ⟨cell_of_blk (HB.out.1.trans H2.out.symm), fun i => cell_of_blk ?_⟩, HS2.out, HB.out.1, HB.out.2.1⟩
        rw [add_block]
        exact HB.out.2.1.trans H3.out.symm
  case done =>
    rintro D ys W hD hys ⟨h1, h2, h3⟩ hK
    rw [hys] at h1
    obtain ⟨x0, x1, xf⟩ := h1.cells
    obtain ⟨v, hv6, hown⟩ := h1.out
    have x6 : W.cell? ⟨w.heap.size + 1, 0, none⟩ = some v := Bx.cell ⟨hv6⟩ (j := 0) rfl
    gi_wp2
    gi_region
    gi_wp2
    have k := h1.below (below_drew (Below.refl _ _))
    have hKd : W.drew.heap[D]? = some (.deferred (some [])) := hK
    refine ⟨by simp, .inl ⟨_, _, rfl, run_takeDeferred hKd, ?_⟩⟩
    have k1 := k.kept (grownBy_putObj' W.drew D (.deferred none)) (fun k e => by cases e; exact ⟨by omega, _, hKd, rfl⟩)
    obtain ⟨v2, kv6, kown⟩ := k1.out
    have hvv : v2 = v := by
      have e1 := kv6
      rw [World.putObj_heap_other (by omega)] at e1
      have e2 := blk_drew hv6
      rw [e2] at e1
      simp only [Option.some.injEq, Obj.cells.injEq] at e1
      simpa using e1.1.symm
    subst hvv
    exact ⟨_, results_tmp2 rfl _ _ _, v2, rfl, kown, k1.bel⟩
  case stop =>
    rintro D c pre W hD _ h _
    exact h.elim
end Go.Proofs.Ytpdjkclacbgneaa
namespace Go.Proofs.Ytpdjkclacbgneaa
open Go.RowKit Go.Shelf Go.Proofs.YtpdjkclacbgneaaW.PrintWords Go.Proofs.Ytpdjkclacbgneaa.Pl

theorem slots_any (pb : Nat) (p : Pg) (name : Nm) (w : World) (H : ProgIs w pb p) (h8 : ∀ n, (clsOf p n).fields.length ≤ 8) :
    Calls Try.prog 36 #[.pointer (some ⟨pb, 0, none⟩), .string name] w fun e w' => ∃ v, e = .returned (.tuple #[v, .int .i64 (slots p name).2]) ∧ OwnSl w.heap.size w' v (slots p name).1 ∧ Below w.heap.size w w' := callsIn_wide.1 (slots_in pb p name w H h8)
theorem OwnSl.cells {B : Nat} {w : World} {v : Value} {l : List Sl} (h : OwnSl B w v l) : ∃ A c, v = .slice A l.length c ∧ Cells w A l.length 6 (fun j => slCs (l.getD j default)) := by
  obtain ⟨A, c, hv, hr⟩ := own_reads_row (R := fun x cs => cs = slCs x) (ps := l) h ⟨fls_len l, fun j p hj => fls_at l j p hj⟩ rfl
  refine ⟨A, c, hv, hr.2.1, fun hp => ?_⟩
  obtain ⟨ad, e, hc⟩ := hr.2.2 hp
  refine ⟨ad, e, fun j hj => ?_⟩
  have hj2 : j < l.length := hj
  obtain ⟨cs, h1, h2, h3⟩ := hc j _ (List.getElem?_eq_getElem hj2)
  simp only [List.getD_eq_getElem?_getD, List.getElem?_eq_getElem hj2]
  exact ⟨rfl, fun i u hu => h3 i u (by rw [h2]; exact hu)⟩
set_option maxHeartbeats 1000000 in
theorem fname_any (s : Sl) (g : Nat) (nm : ByteArray) (W : World) (hg : g < W.heap.size) (hc : W.cell? ⟨g, 0, none⟩ = some (.string nm)) :
    Calls Try.prog 38 #[.agg (slCs s).toArray, .pointer (some ⟨g, 0, none⟩)] W fun e w' => e = .returned (.bool (decide (s.fd.name = nm))) ∧ Below W.heap.size W w' := by
  obtain ⟨cl, ⟨n, ⟨k, c⟩, v⟩, a⟩ := s
  show Calls Try.prog 38 #[.agg #[.string cl, .string n, .int .i64 k, .string c, .bool v, .int .i64 a], .pointer (some ⟨g, 0, none⟩)] W fun e w' => e = .returned (.bool (decide (n = nm))) ∧ Below W.heap.size W w'
  by_cases h : n = nm
  · have e1 := str_eq h
    rw [decide_eq_true h]
    go_enter Try.func38, Try.ntmps38
    go_wp2
    go_ret
    exact ⟨rfl, balloc _ _⟩
  · have e1 := str_ne h
    rw [decide_eq_false h]
    go_enter Try.func38, Try.ntmps38
    go_wp2
    go_ret
    exact ⟨rfl, balloc _ _⟩
theorem fname_asks (l : List Sl) (n : Nat) (g : Nat) (nm : ByteArray) (W : World) (hg : g < W.heap.size) (hc : W.cell? ⟨g, 0, none⟩ = some (.string nm)) :
    Asks Try.prog 38 #[.pointer (some ⟨g, 0, none⟩)] (fun j => .agg (slCs (l.getD j default)).toArray) n (fun j => decide ((l.getD j default).fd.name = nm)) W :=
  fun j _ W' hb => fname_any (l.getD j default) g nm W' (Nat.lt_of_lt_of_le hg hb.size) ((hb.cell (p := ⟨g, 0, none⟩) hg).trans hc)
theorem find_idxG {α : Type} [Inhabited α] (f : α → Bool) : ∀ (l : List α) (m : α), l.find? f = some m → ∃ k, k < l.length ∧ l.getD k default = m ∧ (∀ j, j < k → f (l.getD j default) = false) ∧ f (l.getD k default) = true
  | [], m, h => by simp at h
  | y :: r, m, h => by
    rw [List.find?_cons] at h
    split at h
    · rename_i hy
      cases h
      exact ⟨0, by simp, rfl, fun j hj => absurd hj (Nat.not_lt_zero j), hy⟩
    · rename_i hy
      obtain ⟨k, h1, h2, h3, h4⟩ := find_idxG f r m h
      refine ⟨k + 1, by simp; omega, h2, fun j hj => ?_, h4⟩
      cases j with
      | zero => simpa using hy
      | succ j => exact h3 j (by omega)
theorem find_noneG {α : Type} [Inhabited α] {f : α → Bool} {l : List α} (h : l.find? f = none) : ∀ j, j < l.length → f (l.getD j default) = false := by
  intro j hj
  rw [List.find?_eq_none] at h
  have := h l[j] (List.getElem_mem hj)
  rw [List.getD_eq_getElem?_getD, List.getElem?_eq_getElem hj]
  simpa using this
theorem results_c6t {P : Program} {fn : Func} {p v : Tmp} {ty : TypeId} (h : fn.results = #[.cell p ty, .tmp v]) (tmps : Array Value) (w : World) (g : Nat) (t : TypeId) (cs : Array Value) (fr : Nat × Nat) (d : TypeDesc)
    (hp : tmps.getD p undef = .pointer (some ⟨g, 0, none⟩)) (hg : w.heap[g]? = some (.cells cs t fr))
    (hu : P.underlying ty = some d) (hd : (match d with | .struct _ | .array _ _ => true | _ => false) = true) (hi : (P.info? ty).map (·.size) = some cs.size) :
    (results fn tmps).run P w = .ok (.tuple #[.agg cs, tmps.getD v undef]) w := results_ct h tmps w g t cs fr d hp hg hu hd hi
theorem six_cells {w : World} {g : Nat} {a b c d e f : Value} {t : TypeId} (h : w.heap[g]? = some (.cells #[a, b, c, d, e, f] t (0, 0))) : w.cell? ⟨g, 0, none⟩ = some a ∧ w.cell? ⟨g, 1, none⟩ = some b ∧ w.cell? ⟨g, 2, none⟩ = some c ∧ w.cell? ⟨g, 3, none⟩ = some d ∧ w.cell? ⟨g, 4, none⟩ = some e ∧ w.cell? ⟨g, 5, none⟩ = some f ∧ ∀ j, w.frozen? ⟨g, j, none⟩ = false :=
  ⟨Bx.cell ⟨h⟩ (j := 0) rfl, Bx.cell ⟨h⟩ (j := 1) rfl, Bx.cell ⟨h⟩ (j := 2) rfl, Bx.cell ⟨h⟩ (j := 3) rfl, Bx.cell ⟨h⟩ (j := 4) rfl, Bx.cell ⟨h⟩ (j := 5) rfl, fun j => blk_frozen h j⟩
theorem chain6 {B g : Nat} {w W : World} {a0 a1 a2 a3 a4 a5 v0 v1 v2 v3 v4 v5 : Value} {t : TypeId} (hb : Below B w W) (hl : B ≤ g) (h : W.heap[g]? = some (.cells #[a0, a1, a2, a3, a4, a5] t (0, 0))) :
    Below B w ((((((W.setCell ⟨g, 0, none⟩ v0).setCell ⟨g, 1, none⟩ v1).setCell ⟨g, 2, none⟩ v2).setCell ⟨g, 3, none⟩ v3).setCell ⟨g, 4, none⟩ v4).setCell ⟨g, 5, none⟩ v5) ∧
    ((((((W.setCell ⟨g, 0, none⟩ v0).setCell ⟨g, 1, none⟩ v1).setCell ⟨g, 2, none⟩ v2).setCell ⟨g, 3, none⟩ v3).setCell ⟨g, 4, none⟩ v4).setCell ⟨g, 5, none⟩ v5).heap[g]? = some (.cells #[v0, v1, v2, v3, v4, v5] t (0, 0)) :=
  ⟨set_low (set_low (set_low (set_low (set_low (set_low hb hl _) hl _) hl _) hl _) hl _) hl _, by simp [World.setCell, Array.getElem?_modify, h]⟩
set_option maxRecDepth 10000 in
set_option maxHeartbeats 1000000 in
theorem field_any (pb : Nat) (p : Pg) (cls name : Nm) (w : World) (H : ProgIs w pb p) (h8 : ∀ n, (clsOf p n).fields.length ≤ 8) :
    Calls Try.prog 20 #[.pointer (some ⟨pb, 0, none⟩), .string cls, .string name] w fun e w' => e = .returned (.tuple #[.agg (slCs (fieldOf p cls name).1).toArray, .bool (fieldOf p cls name).2]) ∧ Below w.heap.size w w' := by
  obtain ⟨w2, hw2⟩ : ∃ w2, (w.alloc (.cells #[.string name] 9)).alloc (.cells #[.string ⟨#[]⟩, .string ⟨#[]⟩, .int .i64 0, .string ⟨#[]⟩, .bool false, .int .i64 0] SLT) = w2 := ⟨_, rfl⟩
  have hb2 : Below w.heap.size w w2 := by rw [← hw2]; exact bthen (balloc _ _) (balloc _ _)
  have hg0 : w2.heap[w.heap.size]? = some (.cells #[.string name] 9 (0, 0)) := by rw [← hw2]; exact blk_alloc (blk_new _ _) _
  have hg1 : w2.heap[w.heap.size + 1]? = some (.cells #[.string ⟨#[]⟩, .string ⟨#[]⟩, .int .i64 0, .string ⟨#[]⟩, .bool false, .int .i64 0] SLT (0, 0)) := by rw [← hw2]; exact blk_second w _ _
  have SL := Aside0.mk (slots_any pb p cls w2 (H.below hb2) h8)
  have HB2 := Aside0.mk hb2
  have HG0 := Aside0.mk hg0
  have HG1 := Aside0.mk hg1
  have eg := Aside0.mk (enters_of Try.func38 (by kernel_rfl) rfl)
  clear H h8 hb2 hg0 hg1
  go_enter Try.func20, Try.ntmps20
  go_wp2_with fail
  refine SL.out.mono ?_
  rintro e w3 ⟨v, rfl, ho, hb3⟩
  obtain ⟨A, c, rfl, CC⟩ := ho.cells
  have hg3 := blk_below HG0.out hb3
  have IX := Aside0.mk (idx_Sl 38 _ eg.out A _ c _ _ w3 CC (fname_asks (slots p cls).1 _ w.heap.size name w3 (blk_lt hg3) (Bx.cell ⟨hg3⟩ (j := 0) rfl)))
  obtain ⟨l, hl⟩ : ∃ l, (slots p cls).1 = l := ⟨_, rfl⟩
  have hfo : fieldOf p cls name = match l.find? (fun s => decide (s.fd.name = name)) with | some s => (s, true) | none => (default, false) := by unfold fieldOf; rw [hl]; cases l.find? (fun s => decide (s.fd.name = name)) <;> rfl
  rw [hl] at IX CC ⊢
  have HCC := Aside0.mk CC
  have HG13 := Aside0.mk (blk_below HG1.out hb3)
  have HB3 := Aside0.mk (bthen HB2.out hb3)
  have HFO := Aside0.mk hfo
  obtain ⟨n, hn⟩ : ∃ n, l.length = n := ⟨_, rfl⟩
  rw [hn] at IX HCC ⊢
  have HN := Lib.hid hn
  clear ho CC hg3 hb3 hl hfo hw2 hn
  go_wp2_with fail
  refine IX.out.mono ?_
  rintro e w4 ⟨rfl, hb4⟩
  have HG14 := Aside0.mk (blk_below HG13.out hb4)
  have HB4 := Aside0.mk (bthen HB3.out hb4)
  have HC4 := Aside0.mk (HCC.out.below hb4)
  clear hb4
  cases hf : l.find? (fun s => decide (s.fd.name = name)) with
  | none =>
    have hfo := HFO.out
    rw [hf] at hfo
    have HR := Lib.hid hfo
    rw [idxB_miss (fun j hj => find_noneG hf j (by have := HN.out; omega))]
    clear hf hfo IX
    obtain ⟨z0, z1, z2, z3, z4, z5, zf⟩ := six_cells HG14.out
    obtain ⟨k1, k2⟩ := chain6 (v0 := .string ⟨#[]⟩) (v1 := .string ⟨#[]⟩) (v2 := .int .i64 0) (v3 := .string ⟨#[]⟩) (v4 := .bool false) (v5 := .int .i64 0) HB4.out (Nat.le_succ _) HG14.out
    have K1 := Aside0.mk k1
    have K2 := Aside0.mk k2
    clear k1 k2
    go_wp2
    refine bodyPost_ret (results_ct rfl _ _ _ _ _ _ _ rfl K2.out Try.underlying52 rfl (by kernel_rfl)) rfl ?_
    exact ⟨by rw [HR.out]; rfl, K1.out⟩
  | some s =>
    have hfo := HFO.out
    rw [hf] at hfo
    have HR := Lib.hid hfo
    obtain ⟨k, k1, k2, k3, k4⟩ := find_idxG _ l s hf
    rw [idxB_hit (k := k) (by have := HN.out; omega) k3 k4]
    have hkn : k < n := by have := HN.out; omega
    have hk0 : ¬ (k : Int) < 0 := by omega
    have hk00 : (0 : Int) ≤ (k : Int) := by omega
    have hkl : (k : Int) < (n : Int) := by omega
    obtain ⟨ad, rfl, _⟩ := HC4.out.2 (by omega)
    have l0 := HC4.out.at0 hkn (v := .string s.cls) (by rw [k2]; rfl)
    have l1 := HC4.out.at_ (i := 1) hkn (by decide) (v := .string s.fd.name) (by rw [k2]; rfl)
    have l2 := HC4.out.at_ (i := 2) hkn (by decide) (v := .int .i64 s.fd.ty.kind) (by rw [k2]; rfl)
    have l3 := HC4.out.at_ (i := 3) hkn (by decide) (v := .string s.fd.ty.cls) (by rw [k2]; rfl)
    have l4 := HC4.out.at_ (i := 4) hkn (by decide) (v := .bool s.fd.vol) (by rw [k2]; rfl)
    have l5 := HC4.out.at_ (i := 5) hkn (by decide) (v := .int .i64 s.at_) (by rw [k2]; rfl)
    obtain ⟨z0, z1, z2, z3, z4, z5, zf⟩ := six_cells HG14.out
    have hmax := HC4.out.1
    obtain ⟨c1, c2⟩ := chain6 (v0 := .string s.cls) (v1 := .string s.fd.name) (v2 := .int .i64 s.fd.ty.kind) (v3 := .string s.fd.ty.cls) (v4 := .bool s.fd.vol) (v5 := .int .i64 s.at_) HB4.out (Nat.le_succ _) HG14.out
    have K1 := Aside0.mk c1
    have K2 := Aside0.mk c2
    clear hf hfo IX k2 k3 k4 c1 c2
    go_wp2
    refine bodyPost_ret (results_ct rfl _ _ _ _ _ _ _ rfl K2.out Try.underlying52 rfl (by kernel_rfl)) rfl ?_
    exact ⟨by rw [HR.out]; rfl, K1.out⟩
end Go.Proofs.Ytpdjkclacbgneaa
