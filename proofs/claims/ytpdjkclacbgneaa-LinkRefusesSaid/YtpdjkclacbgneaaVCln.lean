/- slices.Clone of types; verify's copied. -/
import Derived.Test.YtpdjkclacbgneaaVDo6
import Derived.WalkSpells
set_option linter.unusedVariables false
set_option linter.unusedSimpArgs false
namespace Go.Proofs.Ytpdjkclacbgneaa
open Go.RowKit Go.Shelf Go.Proofs.YtpdjkclacbgneaaW.PrintWords Go.Proofs.Ytpdjkclacbgneaa.Pl

theorem flt_news {w : World} {ad : Addr} {l : List Ty} (h : Cells w (some ad) l.length 2 (fun j => tyCs (l.getD j default))) (j : Nat) (u : Value) (hu : (flt l)[j]? = some u) : w.cell? (ad.add j) = some u := by
  have hj : j < l.length * 2 := by rw [← flt_len]; exact (List.getElem?_eq_some_iff.1 hu).1
  obtain ⟨k, i, hi, rfl⟩ : ∃ k i, i < 2 ∧ j = k * 2 + i := ⟨j / 2, j % 2, Nat.mod_lt _ (by decide), by omega⟩
  have hk : k < l.length := by omega
  obtain ⟨ad', e, hc⟩ := h.2 (by omega)
  cases e
  have h1 := flt_at l k _ (List.getElem?_eq_getElem hk)
  have h2 : (tyCs l[k])[i]? = some u := by
    rw [← h1, List.getElem?_take, if_pos hi, List.getElem?_drop]
    exact hu
  refine (hc k hk).2 i u ?_
  simp only [List.getD_eq_getElem?_getD, List.getElem?_eq_getElem hk]
  exact h2
theorem flt_one (l : List Ty) : ∀ u ∈ flt l, u.oneCell' = true := by
  intro u hu
  simp only [flt, List.mem_flatMap] at hu
  obtain ⟨t, _, ht⟩ := hu
  simp only [tyCs, List.mem_cons, List.not_mem_nil, or_false] at ht
  rcases ht with rfl | rfl <;> rfl
/-- A row of types appended to a row of the call's own. -/
theorem app_tys {B : Nat} {W : World} {v : Value} {l l2 : List Ty} {ad : Addr} {c : Nat} (ty : TypeId) (h : OwnTy B W v l) (hB : B ≤ W.heap.size) (h2 : Cells W (some ad) l2.length 2 (fun j => tyCs (l2.getD j default))) (hl : l.length + l2.length ≤ 2000) :
    ∃ v1 w1, (Builtin.append_ #[63, 63] ty #[v, .slice (some ad) l2.length c]).run Try.prog W = .ok v1 w1 ∧ OwnTy B w1 v1 (l ++ l2) ∧ W.grownBy w1 v.ownBlock ∧ (v1.ownBlock = v.ownBlock ∨ ∃ b, v1.ownBlock = some b ∧ W.heap.size ≤ b) := by
  obtain ⟨i0, hi, hzz⟩ := Option.map_eq_some_iff.1 tyInfo
  simp only [Prod.mk.injEq] at hzz
  obtain ⟨hz0, hz1, hz2⟩ := hzz
  have hst : Try.prog.underlying 63 = some (.slice 48) := Try.underlying63
  obtain ⟨v1, w1, hrun, h3, hg, _, hat⟩ := run_append_own_at (P := Try.prog) (w := W) B 63 ty 48 i0 (.agg #[.int .i64 0, .string ⟨#[]⟩]) 2 24 hst hi hz0 hz1 hz2 rfl (by decide) v l.length (flt l) h ad l2.length c (flt l2) (flt_len l2)
    (flt_news h2) (flt_one l2) (by simp only [maxLen]; omega) (by omega) hB
  refine ⟨v1, w1, hrun, ?_, hg, ?_⟩
  · unfold OwnTy
    rw [flt_app, List.length_append]
    exact h3
  · rcases hat with hat | hat
    · exact .inl hat
    · exact .inr ⟨_, hat, Nat.le_refl _⟩
theorem wpList_append_E {P : Program} {ops : Array Oper} {rest : List Oper} {o : Oper} {a : Act} {Q : Exit → Act → World → Prop} {W w1 : World} {v u v1 : Value} (hgd : o.guard = none) (s x : Operand) (t : TypeId)
    (ho : o.op = .call { callee := .builtin .append, args := #[s, x], argTypes := #[t, t] }) (hs : a.eval s = v) (hx : a.eval x = u) (hr : (Builtin.append_ #[t, t] o.type #[v, u]).run P W = .ok v1 w1)
    (h : wpList P ops Q rest (a.put o.dst v1) w1) : wpList P ops Q (o :: rest) a W := by
  refine wpList_plain hgd fun K hK => ?_
  unfold Oper.wp execOp
  simp only [ho, resolve, invoke, builtin, Sem.run_bind, Sem.run_pure, Result.andThen_ok, List.map_toArray, List.map_cons, List.map_nil, hs, hx, hr]
  exact hK _ _ h
theorem OwnTy.low {B B' : Nat} {w : World} {v : Value} {l : List Ty} (h : OwnTy B w v l) (hb : B' ≤ B) : OwnTy B' w v l := own_weaken h hb
theorem OwnTy.empty (W : World) (B : Nat) (hB : B ≤ W.heap.size) : OwnTy B (W.alloc (.cells #[] 48)) (.slice (some ⟨W.heap.size, 0, none⟩) 0 0) [] :=
  ⟨rfl, .inr ⟨W.heap.size, 0, #[], rfl, hB, blk_new _ _, Nat.le_refl _, by unfold maxLen; omega, rfl, rfl⟩⟩
set_option maxRecDepth 10000 in
set_option maxHeartbeats 400000 in
theorem clone_any {B : Nat} (v : Value) (l : List Ty) (w : World) (h : OwnTy B w v l) (hl : l.length ≤ 1000) :
    Calls Try.prog 103 #[v] w fun e w' => ∃ v1, e = .returned v1 ∧ OwnTy w.heap.size w' v1 l ∧ Below w.heap.size w w' := by
  have hst : Try.prog.underlying 63 = some (.slice 48) := Try.underlying63
  have hnil : ∀ (w : World) (a : Option Addr) (n c n' c' : Nat), (binOp .eql 63 (.slice a n c) (.slice none n' c')).run Try.prog w = .ok (.bool a.isNone) w := fun w a n c n' c' => Lib.run_eql_slice_nil w 63 48 a n c n' c' hst
  rcases h.2 with ⟨rfl, hn⟩ | ⟨g, cap, cur, rfl, hg1, hg2, hg3, hg4, hg5, hg6⟩
  · obtain rfl : l = [] := List.eq_nil_of_length_eq_zero hn
    clear h hl
    go_enter Try.func103, Try.ntmps103
    go_wp2
    go_ret
    exact ⟨_, rfl, own_nil _ _ _ _, Below.refl _ _⟩
  · obtain ⟨A, c, hv, hc, hr⟩ := h.reads
    cases hv
    have CC := cells_ty hr
    obtain ⟨v1, w1, E1, h2, hgr, hat⟩ := app_tys (c := cap) 63 (OwnTy.empty w w.heap.size (Nat.le_refl _)) (by simp) (CC.below (balloc w (.cells #[] 48))) (by simpa using Nat.le_trans hl (by decide))
    rw [List.nil_append] at h2
    have hsz : (w.alloc (.cells #[] 48)).heap.size = w.heap.size + 1 := by simp
    have HB : Aside0 (Below w.heap.size w w1) := ⟨pw_below_grown (balloc w _) _ (by simp) hgr (fun k e => by cases e; exact Nat.le_refl _)⟩
    have H2 := Aside0.mk h2
    have hi := Option.map_eq_some_iff.1 tyInfo
    clear h hr CC h2 hgr hat hg1 hg2 hg4 hg5 hg6
    go_enter Try.func103, Try.ntmps103
    go_wp2_with (at_builtin; refine wpList_append_E rfl _ _ _ rfl rfl rfl E1 ?_)
    go_wp2
    go_ret
    exact ⟨_, rfl, H2.out, HB.out⟩
end Go.Proofs.Ytpdjkclacbgneaa
