/- link.Link: under way. -/
import Derived.Test.YtpdjkclacbgneaaLkSt
import Derived.StillTailTactics
import Derived.Deep.RegionHeld3
import Derived.Deep.DeepMust
set_option linter.unusedVariables false
set_option linter.unusedSimpArgs false
namespace Go.Proofs.Ytpdjkclacbgneaa
open Go.RowKit Go.Shelf Go.Proofs.YtpdjkclacbgneaaW.PrintWords Go.Proofs.Ytpdjkclacbgneaa.Pl

theorem link_nil (l : List Cl) (h : firstOf check l ≠ 0) : link l = (firstOf check l, ⟨[], []⟩) := by
  unfold link
  rw [if_pos h]
/-- Two rows of strings of the call's own that share no block. -/
structure Two (w W : World) (v u : Value) (xs ys : List Nm) : Prop where
  bel : Below w.heap.size w W
  r1 : Kd.string.R 9 W w.heap.size (fun _ => True) v xs
  r2 : Kd.string.R 9 W w.heap.size (fun _ => True) u ys
  ne : ∀ k, v.ownBlock = some k → u.ownBlock ≠ some k
theorem Two.below {w W W' : World} {v u : Value} {xs ys : List Nm} (h : Two w W v u xs ys) (hb : Below W.heap.size W W') : Two w W' v u xs ys := ⟨bthen h.bel hb, Kd.R_below h.r1 hb, Kd.R_below h.r2 hb, h.ne⟩
/-- The first row has grown. -/
theorem Two.first {w W W' : World} {v u v' : Value} {xs ys xs' : List Nm} (h : Two w W v u xs ys) (hr : Kd.string.R 9 W' w.heap.size (fun _ => True) v' xs') (hb : Below w.heap.size w W') (hg : W.grownBy W' v.ownBlock) (hat : v'.ownBlock = v.ownBlock ∨ ∃ b, v'.ownBlock = some b ∧ W.heap.size ≤ b) : Two w W' v' u xs' ys := by
  have hu : Kd.string.R 9 W' w.heap.size (fun _ => True) u ys := by
    obtain ⟨h0, inner, ho, hrep⟩ := h.r2
    have hne : u.ownBlock = none ∨ u.ownBlock ≠ v.ownBlock := by
      cases hub : u.ownBlock with
      | none => exact .inl rfl
      | some k => exact .inr fun e => h.ne k e.symm hub
    exact Kd.R_of_own (by have := Kd.own_of_R h.r2; exact own_other this hg hne) (fun _ _ => trivial)
  refine ⟨hb, hr, hu, fun k hk hku => ?_⟩
  rcases hat with e | ⟨b, e, hle⟩
  · exact h.ne k (e ▸ hk) hku
  · rw [e] at hk
    cases hk
    have := Kd.R_lt h.r2 _ hku
    omega
theorem Two.swap {w W : World} {v u : Value} {xs ys : List Nm} (h : Two w W v u xs ys) : Two w W u v ys xs := ⟨h.bel, h.r2, h.r1, fun k hk hv => h.ne k hv hk⟩
/-- A string appended out of a box that lies in the world. -/
theorem append_str {w W : World} {v : Value} {xs : List Nm} {s : Nm} {bx : Nat} (ty : TypeId) (hr : Kd.string.R 9 W w.heap.size (fun _ => True) v xs) (hB : Below w.heap.size w W) (hbx : W.heap[bx]? = some (.cells #[.string s] 9 (0, 0))) (hl : xs.length ≤ 1000) :
    ∃ v1 w1, (Builtin.append_ #[55, 55] ty #[v, .slice (some ⟨bx, 0, none⟩) 1 1]).run Try.prog W = .ok v1 w1 ∧ Kd.string.R 9 w1 w.heap.size (fun _ => True) v1 (xs ++ [s]) ∧ Below w.heap.size w w1 ∧ W.grownBy w1 v.ownBlock ∧ (v1.ownBlock = v.ownBlock ∨ ∃ b, v1.ownBlock = some b ∧ W.heap.size ≤ b) := by
  obtain ⟨i0, hi, hzz⟩ := Option.map_eq_some_iff.1 strInfo
  simp only [Prod.mk.injEq] at hzz
  obtain ⟨hz0, hz1, hz2⟩ := hzz
  have hst : Try.prog.underlying 55 = some (.slice 9) := Try.underlying55
  have hown := Kd.own_of_R hr
  obtain ⟨v1, w1, hrun, h2, hg, _, hat⟩ := run_append_own_at (P := Try.prog) W w.heap.size 55 ty 9 i0 (.string ⟨#[]⟩) 1 16 hst hi hz0 hz1 hz2 rfl (by decide) v xs.length (encs Value.string xs) hown ⟨bx, 0, none⟩ 1 1 [.string s] rfl
    (World.news_of_block hbx) (by simp [Value.oneCell']) (by simp only [maxLen]; omega) (by omega) hB.size
  refine ⟨v1, w1, hrun, Kd.R_of_own (xs := xs ++ [s]) (by simpa [encs] using h2) (fun _ _ => trivial), hB.grown hg hB.size (own_base hown), hg, ?_⟩
  rcases hat with hat | hat
  · exact .inl hat
  · exact .inr ⟨_, hat, Nat.le_refl _⟩
def bxS (s : Nm) : Obj := .cells #[.string s] 9
/-- One of two rows appended to. -/
theorem two_app {w W : World} {v u : Value} {xs ys : List Nm} {s : Nm} {bx : Nat} (ty : TypeId) (T : Two w W v u xs ys) (hbx : W.heap[bx]? = some (bxS s)) (hl : xs.length ≤ 1000) :
    ∃ v1 w1, (Builtin.append_ #[55, 55] ty #[v, .slice (some ⟨bx, 0, none⟩) 1 1]).run Try.prog W = .ok v1 w1 ∧ Two w w1 v1 u (xs ++ [s]) ys ∧ W.heap.size ≤ w1.heap.size ∧ ∀ i o, W.heap[i]? = some o → some i ≠ v.ownBlock → w1.heap[i]? = some o := by
  obtain ⟨v1, w1, h1, h2, h3, h4, h5⟩ := append_str ty T.r1 T.bel hbx hl
  exact ⟨v1, w1, h1, T.first h2 h3 h4 h5, h4.size, fun i o hi hne => (h4.block i (blk_lt hi) hne).trans hi⟩
theorem Two.off {w W : World} {v u : Value} {xs ys : List Nm} (T : Two w W v u xs ys) {i t : Nat} {cells : Array Value} (hi : W.heap[i]? = some (.cells cells t (0, 0))) (ht : 9 ≠ t) : some i ≠ v.ownBlock := Kd.R_ne T.r1 hi ht
theorem Two.fresh {w W : World} {v u : Value} {xs ys : List Nm} (T : Two w W v u xs ys) {i : Nat} (hi : W.heap.size ≤ i) : some i ≠ v.ownBlock := fun e => by
  have := Kd.R_lt T.r1 i e.symm
  omega
/-- The three orders of Link's two appends. -/
theorem orders {w W : World} {v u : Value} {xs ys : List Nm} {n s : Nm} {gx : Nat} {cells : Array Value} (ty : TypeId) (T : Two w W v u xs ys) (hg : W.heap[gx]? = some (.cells cells 72 (0, 0))) (hl : xs.length ≤ 1000) (hl2 : ys.length ≤ 1000) :
    (∃ v1 w4 u1 w5, (Builtin.append_ #[55, 55] ty #[v, .slice (some ⟨W.heap.size, 0, none⟩) 1 1]).run Try.prog (W.alloc (bxS n)).drew = .ok v1 w4 ∧ (Builtin.append_ #[55, 55] ty #[u, .slice (some ⟨w4.heap.size, 0, none⟩) 1 1]).run Try.prog (w4.alloc (bxS s)) = .ok u1 w5 ∧ Two w w5 v1 u1 (xs ++ [n]) (ys ++ [s]) ∧ w4.heap[gx]? = some (.cells cells 72 (0, 0)) ∧ w5.heap[gx]? = some (.cells cells 72 (0, 0))) ∧
    (∃ v1 w4 u1 w5, (Builtin.append_ #[55, 55] ty #[v, .slice (some ⟨W.heap.size, 0, none⟩) 1 1]).run Try.prog ((W.alloc (bxS n)).alloc (bxS s)).drew = .ok v1 w4 ∧ (Builtin.append_ #[55, 55] ty #[u, .slice (some ⟨W.heap.size + 1, 0, none⟩) 1 1]).run Try.prog w4 = .ok u1 w5 ∧ Two w w5 v1 u1 (xs ++ [n]) (ys ++ [s]) ∧ w4.heap[gx]? = some (.cells cells 72 (0, 0)) ∧ w5.heap[gx]? = some (.cells cells 72 (0, 0))) ∧
    (∃ v1 w4 u1 w5, (Builtin.append_ #[55, 55] ty #[v, .slice (some ⟨W.heap.size + 1, 0, none⟩) 1 1]).run Try.prog ((W.alloc (bxS s)).alloc (bxS n)).drew = .ok v1 w4 ∧ (Builtin.append_ #[55, 55] ty #[u, .slice (some ⟨W.heap.size, 0, none⟩) 1 1]).run Try.prog w4 = .ok u1 w5 ∧ Two w w5 v1 u1 (xs ++ [n]) (ys ++ [s]) ∧ w4.heap[gx]? = some (.cells cells 72 (0, 0)) ∧ w5.heap[gx]? = some (.cells cells 72 (0, 0))) := by
  have hty : 9 ≠ 72 := by decide
  refine ⟨?_, ?_, ?_⟩
  · have T1 := T.below (below_drew (balloc W (bxS n)))
    obtain ⟨v1, w4, e1, T2, hs, hk⟩ := two_app ty T1 (blk_drew (blk_new W (bxS n))) hl
    have g1 : (W.alloc (bxS n)).drew.heap[gx]? = some (.cells cells 72 (0, 0)) := blk_alloc hg _
    have g4 := hk gx _ g1 (T1.off g1 hty)
    have T3 := (T2.below (balloc w4 (bxS s))).swap
    obtain ⟨u1, w5, e2, T4, _, hk2⟩ := two_app ty T3 (blk_new w4 (bxS s)) hl2
    have g4' := blk_alloc g4 (bxS s)
    exact ⟨v1, w4, u1, w5, e1, e2, T4.swap, g4, hk2 gx _ g4' (T3.off g4' hty)⟩
  · have T1 := T.below (below_drew (bthen (balloc W (bxS n)) (balloc _ (bxS s))))
    obtain ⟨v1, w4, e1, T2, hs, hk⟩ := two_app ty T1 (blk_drew (blk_alloc (blk_new W (bxS n)) (bxS s))) hl
    have g1 : ((W.alloc (bxS n)).alloc (bxS s)).drew.heap[gx]? = some (.cells cells 72 (0, 0)) := blk_alloc (blk_alloc hg _) _
    have g4 := hk gx _ g1 (T1.off g1 hty)
    have b2 : ((W.alloc (bxS n)).alloc (bxS s)).drew.heap[W.heap.size + 1]? = some (bxS s) := by
      have := blk_new (W.alloc (bxS n)) (bxS s)
      rwa [World.size_alloc] at this
    have b4 := hk _ _ b2 (T.fresh (by omega))
    obtain ⟨u1, w5, e2, T4, _, hk2⟩ := two_app ty T2.swap b4 hl2
    exact ⟨v1, w4, u1, w5, e1, e2, T4.swap, g4, hk2 gx _ g4 (T2.swap.off g4 hty)⟩
  · have T1 := T.below (below_drew (bthen (balloc W (bxS s)) (balloc _ (bxS n))))
    have b1 : ((W.alloc (bxS s)).alloc (bxS n)).drew.heap[W.heap.size + 1]? = some (bxS n) := by
      have := blk_new (W.alloc (bxS s)) (bxS n)
      rwa [World.size_alloc] at this
    obtain ⟨v1, w4, e1, T2, hs, hk⟩ := two_app ty T1 b1 hl
    have g1 : ((W.alloc (bxS s)).alloc (bxS n)).drew.heap[gx]? = some (.cells cells 72 (0, 0)) := blk_alloc (blk_alloc hg _) _
    have g4 := hk gx _ g1 (T1.off g1 hty)
    have b2 : ((W.alloc (bxS s)).alloc (bxS n)).drew.heap[W.heap.size]? = some (bxS s) := blk_alloc (blk_new W (bxS s)) _
    have b4 := hk _ _ b2 (T.fresh (by omega))
    obtain ⟨u1, w5, e2, T4, _, hk2⟩ := two_app ty T2.swap b4 hl2
    exact ⟨v1, w4, u1, w5, e1, e2, T4.swap, g4, hk2 gx _ g4 (T2.swap.off g4 hty)⟩
section
variable {P : Program} {ops : Array Oper} {o : Oper} {a : Act} {Q : Exit → Act → World → Prop} {Kc : Act → World → Prop}
/-- An append, as one step of a region that draws its order: by its run alone. -/
theorem append_event {W w1 : World} {v u v1 : Value} {t : TypeId} (s x : Operand) (hw : Region.wanted o (yielded ops a.tmps) = true) (ho : o.op = .call { callee := .builtin .append, args := #[s, x], argTypes := #[t, t] }) (hs : a.eval s = v) (hx : a.eval x = u) (hrun : (Builtin.append_ #[t, t] o.type #[v, u]).run P W = .ok v1 w1) (h : Kc (a.put o.dst v1) w1) :
    if Region.wanted o (yielded ops a.tmps) = true then Oper.wp P o a W Kc Q else Kc (a.put o.dst undef) W := by
  rw [if_pos hw]
  unfold Oper.wp execOp
  simp only [ho, resolve, invoke, builtin, Sem.run_bind, Sem.run_pure, Result.andThen_ok, List.map_toArray, List.map_cons, List.map_nil, hs, hx, hrun]
  exact h
end
set_option maxHeartbeats 1000000 in
set_option maxRecDepth 10000 in
theorem link_any (l : List Cl) (A : Option Addr) (c : Nat) (w : World) (hl : clK.C w A l.length l) (hsz : l.length ≤ 900) (hF : (∃ c, c ∈ l ∧ ∃ x, x ∈ c.pool ∧ 3 ≤ x.kind) → ∀ h, FieldSpec (progOf h l)) :
    Calls Try.prog 18 #[.slice A l.length c] w fun e w' => ∃ pp, e = .returned (.tuple #[.pointer pp, .int .i64 (Pl.link l).1]) ∧ ((Pl.link l).1 = 0 → ∃ pb, pp = some ⟨pb, 0, none⟩ ∧ ProgIs w' pb (Pl.link l).2) ∧ ((Pl.link l).1 ≠ 0 → pp = none) ∧ Below w.heap.size w w' := by
  have HF := Aside0.mk hF
  obtain ⟨mc, CM, KM⟩ := cells_of default hl
  have CM : Cells w A l.length 5 mc := CM
  have KM := Aside0.mk KM
  clear hl hF
  have HU : Hid (Pl.link l = if firstOf check l ≠ 0 then (firstOf check l, ⟨[], []⟩)
    else
      let h := Pl.hier (l.map fun c => (c.name, c.super))
      if h.1 ≠ 0 then (h.1, ⟨[], []⟩)
      else
        let p := progOf h.2 l
        if firstOf (members p) l ≠ 0 then (firstOf (members p) l, ⟨[], []⟩)
        else if firstOf (fun c => firstOf (pool1 p) c.pool) l ≠ 0 then (firstOf (fun c => firstOf (pool1 p) c.pool) l, ⟨[], []⟩)
        else
          let m := meth p nMain nmain
          if m.2.2 = false ∨ 0 < m.2.1.params.length ∨ m.2.1.ret.kind ≠ 0 then (74, ⟨[], []⟩)
          else (0, p)) := Lib.hid rfl
  generalize Pl.link l = res at *
  obtain ⟨n, hn⟩ : ∃ n, l.length = n := ⟨_, rfl⟩
  rw [hn] at CM KM hsz ⊢
  have HN := Lib.hid hn
  clear hn
  go_enter Try.func18, Try.ntmps18
  go_wp2
  go_loopw [4, 5, 24] (fun s4 s5 s24 wr => ∃ kk : Nat, kk ≤ n ∧ s24 = .int .i64 kk ∧ Aside0 (Two w wr s4 s5 ((l.take kk).map (·.name)) ((l.take kk).map (·.super))) ∧ Aside0 (firstOf check (l.drop kk) = firstOf check l)) (fun _ _ s _ => n - (intOf s).toNat)
  case atStart => exact ⟨0, Nat.zero_le _, rfl, ⟨⟨Below.refl _ _, Kd.R_nil _ _ _ _ _, Kd.R_nil _ _ _ _ _, fun k hk => by simp [Value.ownBlock] at hk⟩⟩, ⟨rfl⟩⟩
  case round =>
    obtain ⟨kk, hkk, rfl, T, HL⟩ := hrel
    by_cases hlt : kk < n
    · have hltz : (kk : Int) < (n : Int) := by omega
      have CW := CM.below T.out.bel
      obtain ⟨ad, rfl, had⟩ := CW.2 (by omega)
      clear had
      have HK := KM.out kk hlt
      generalize hx : l.getD kk default = x at HK
      have HX : Aside0 (l[kk]? = some x) := ⟨by rw [← hx]; exact getD_some _ (by have := HN.out; omega)⟩
      obtain ⟨D0, e0, D1, e1, D2, e2, hcs, _, _, _, _⟩ := clK_open HK
      rw [hcs] at HK
      have HK := Aside0.mk HK
      have l0 := CW.at0 hlt (v := .string x.name) (by rw [hcs]; rfl)
      have l1 := CW.at_ hlt (i := 1) (by decide) (v := .string x.super) (by rw [hcs]; rfl)
      have l2 := CW.at_ hlt (i := 2) (by decide) (v := .slice D0 x.pool.length e0) (by rw [hcs]; rfl)
      have l3 := CW.at_ hlt (i := 3) (by decide) (v := .slice D1 x.fields.length e1) (by rw [hcs]; rfl)
      have l4 := CW.at_ hlt (i := 4) (by decide) (v := .slice D2 x.methods.length e2) (by rw [hcs]; rfl)
      obtain ⟨v, hv⟩ : ∃ v, check x = v := ⟨_, rfl⟩
      have HS : Hid (firstOf check (l.drop kk) = if v = 0 then firstOf check (l.drop (kk + 1)) else v) := Lib.hid (by rw [firstOf_step HX.out, hv])
      have HV := Aside0.mk hv
      clear hx hcs hv
      obtain ⟨A4, c4, hs4⟩ := Kd.R_slice T.out.r1
      obtain ⟨A5, c5, hs5⟩ := Kd.R_slice T.out.r2
      have hlen : (l.take kk).length = kk := by rw [List.length_take]; have := HN.out; omega
      rw [List.length_map, hlen] at hs4 hs5
      subst hs4
      subst hs5
      clear hlen
      go_wp2_with fail
      have hba := balloc wr (.cells #[.string x.name, .string x.super, .slice D0 x.pool.length e0, .slice D1 x.fields.length e1, .slice D2 x.methods.length e2] 72)
      refine (check_is (clK.K_below (bthen T.out.bel hba) HK.out) HV.out).mono ?_
      rintro e w' ⟨rfl, hb⟩
      have hbx := blk_below (blk_new wr (.cells #[.string x.name, .string x.super, .slice D0 x.pool.length e0, .slice D1 x.fields.length e1, .slice D2 x.methods.length e2] 72)) hb
      have T1 := Aside0.mk (T.out.below (bthen hba hb))
      obtain ⟨gx, hgx⟩ : ∃ gx, gx = wr.heap.size := ⟨_, rfl⟩
      rw [← hgx] at hbx
      rw [← hgx]
      clear hgx hb hba l0 l1 l2 l3 l4 CW
      obtain ⟨x0, x1, x2, x3, x4⟩ := Bx.five ⟨hbx⟩
      by_cases hv0 : v = 0
      rotate_left
      · have hne : (v == 0) = false := by rw [beq_eq_false_iff_ne]; exact hv0
        have HR : Hid (res = (v, ⟨[], []⟩)) := Lib.hid (by
          have h1 : firstOf check l = v := by rw [← HL.out, HS.out, if_neg hv0]
          rw [HU.out, h1, if_pos hv0])
        clear HS HV HU HL
        go_wp2
        go_ret2
        rw [HR.out]
        exact ⟨_, rfl, fun h => absurd h hv0, fun _ => rfl, T1.out.bel⟩
      subst hv0
      have HL2 : Aside0 (firstOf check (l.drop (kk + 1)) = firstOf check l) := ⟨by rw [← HL.out, HS.out, if_pos rfl]⟩
      clear HS HV HL
      have h1000 : ((l.take kk).map (·.name)).length ≤ 1000 := by rw [List.length_map, List.length_take]; omega
      have h1001 : ((l.take kk).map (·.super)).length ≤ 1000 := by rw [List.length_map, List.length_take]; omega
      obtain ⟨⟨v1, w4, u1, w5, E1, E2, T5, g4, g5⟩, ⟨v1b, w4b, u1b, w5b, E3, E4, T5b, g4b, g5b⟩, ⟨v1c, w4c, u1c, w5c, E5, E6, T5c, g4c, g5c⟩⟩ := orders (n := x.name) (s := x.super) 55 T1.out hbx h1000 h1001
      have T5 := Aside0.mk T5
      have T5b := Aside0.mk T5b
      have T5c := Aside0.mk T5c
      unfold bxS at E1 E2 E3 E5
      obtain ⟨p0, p1, _⟩ := Bx.five ⟨g4⟩
      obtain ⟨q0, q1, _⟩ := Bx.five ⟨g5⟩
      obtain ⟨p0b, p1b, _⟩ := Bx.five ⟨g4b⟩
      obtain ⟨q0b, q1b, _⟩ := Bx.five ⟨g5b⟩
      obtain ⟨p0c, p1c, _⟩ := Bx.five ⟨g4c⟩
      obtain ⟨q0c, q1c, _⟩ := Bx.five ⟨g5c⟩
      have d0 : w'.drew.cell? ⟨gx, 0, none⟩ = some (.string x.name) := x0
      have d1 : w'.drew.cell? ⟨gx, 1, none⟩ = some (.string x.super) := x1
      have f0 : ∀ o, (w'.alloc o).drew.cell? ⟨gx, 0, none⟩ = some (.string x.name) := fun o => pw_cell_below (balloc w' o) x0
      have f1 : ∀ o, (w'.alloc o).drew.cell? ⟨gx, 1, none⟩ = some (.string x.super) := fun o => pw_cell_below (balloc w' o) x1
      have k0 : ∀ o o', ((w'.alloc o).alloc o').drew.cell? ⟨gx, 0, none⟩ = some (.string x.name) := fun o o' => pw_cell_below (bthen (balloc w' o) (balloc _ o')) x0
      have k1 : ∀ o o', ((w'.alloc o).alloc o').drew.cell? ⟨gx, 1, none⟩ = some (.string x.super) := fun o o' => pw_cell_below (bthen (balloc w' o) (balloc _ o')) x1
      have m0 : ∀ o, (w4.alloc o).cell? ⟨gx, 0, none⟩ = some (.string x.name) := fun o => pw_cell_below (balloc w4 o) p0
      have m1 : ∀ o, (w4.alloc o).cell? ⟨gx, 1, none⟩ = some (.string x.super) := fun o => pw_cell_below (balloc w4 o) p1
      go_wp2_with fail
      go_region_held3 (fun w' => w'.cell? ⟨gx, 0, none⟩ = some (.string x.name) ∧ w'.cell? ⟨gx, 1, none⟩ = some (.string x.super)) (first | (with_reducible exact ⟨d0, d1⟩) | (with_reducible exact ⟨f0 _, f1 _⟩) | (with_reducible exact ⟨k0 _ _, k1 _ _⟩) | (with_reducible exact ⟨p0, p1⟩) | (with_reducible exact ⟨p0b, p1b⟩) | (with_reducible exact ⟨p0c, p1c⟩) | (with_reducible exact ⟨m0 _, m1 _⟩) | (with_reducible exact ⟨q0, q1⟩) | (with_reducible exact ⟨q0b, q1b⟩) | (with_reducible exact ⟨q0c, q1c⟩) | (trace_state; fail)) (first | (refine append_event (v := .slice A4 kk c4) (u := .slice (some ⟨w'.heap.size, 0, none⟩) 1 1) _ _ (by rfl) rfl rfl rfl (by with_reducible exact E1) ?_) | (refine append_event (v := .slice A5 kk c5) (u := .slice (some ⟨w4.heap.size, 0, none⟩) 1 1) _ _ (by rfl) rfl rfl rfl (by with_reducible exact E2) ?_) | (refine append_event (v := .slice A4 kk c4) (u := .slice (some ⟨w'.heap.size, 0, none⟩) 1 1) _ _ (by rfl) rfl rfl rfl (by with_reducible exact E3) ?_) | (refine append_event (v := .slice A5 kk c5) (u := .slice (some ⟨w'.heap.size + 1, 0, none⟩) 1 1) _ _ (by rfl) rfl rfl rfl (by with_reducible exact E4) ?_) | (refine append_event (v := .slice A4 kk c4) (u := .slice (some ⟨w'.heap.size + 1, 0, none⟩) 1 1) _ _ (by rfl) rfl rfl rfl (by with_reducible exact E5) ?_) | (refine append_event (v := .slice A5 kk c5) (u := .slice (some ⟨w'.heap.size, 0, none⟩) 1 1) _ _ (by rfl) rfl rfl rfl (by with_reducible exact E6) ?_))
      all_goals
        have hn1 : (l.take (kk + 1)).map (·.name) = (l.take kk).map (·.name) ++ [x.name] := by rw [List.take_add_one, HX.out]; simp
        have hn2 : (l.take (kk + 1)).map (·.super) = (l.take kk).map (·.super) ++ [x.super] := by rw [List.take_add_one, HX.out]; simp
        have hT6 := hn1
        clear hT6
        rw [← hn1, ← hn2] at T5 T5b T5c
        clear hn1 hn2 E1 E2 E3 E4 E5 E6 d0 d1 f0 f1 k0 k1 m0 m1 p0 p1 q0 q1 p0b p1b q0b q1b p0c p1c q0c q1c
        go_wp2
        go_roundw
        case measure => simp [intOf]; omega
        case rel => first | exact ⟨kk + 1, by omega, by go_num, T5, HL2⟩ | exact ⟨kk + 1, by omega, by go_num, T5b, HL2⟩ | exact ⟨kk + 1, by omega, by go_num, T5c, HL2⟩
    · have hltz : ¬ (kk : Int) < (n : Int) := by omega
      have hkn : kk = n := by omega
      subst hkn
      have hl0 : firstOf check l = 0 := by
        rw [← HL.out, List.drop_of_length_le (by have := HN.out; omega)]
        rfl
      have HU1 : Hid (res = (
        let h := Pl.hier (l.map fun c => (c.name, c.super))
        if h.1 ≠ 0 then (h.1, ⟨[], []⟩)
        else
          let p := progOf h.2 l
          if firstOf (members p) l ≠ 0 then (firstOf (members p) l, ⟨[], []⟩)
          else if firstOf (fun c => firstOf (pool1 p) c.pool) l ≠ 0 then (firstOf (fun c => firstOf (pool1 p) c.pool) l, ⟨[], []⟩)
          else
            let m := meth p nMain nmain
            if m.2.2 = false ∨ 0 < m.2.1.params.length ∨ m.2.1.ret.kind ≠ 0 then (74, ⟨[], []⟩)
            else (0, p) : Int × Pg)) := Lib.hid (by rw [HU.out, if_neg (by rw [hl0]; decide)])
      have HL0 := Aside0.mk hl0
      clear HU HL hl0
      have htk : l.take kk = l := List.take_of_length_le (by have := HN.out; omega)
      rw [htk] at T
      obtain ⟨A4, c4, hs4, hc4, hC4⟩ := Kd.R_reads T.out.r1
      obtain ⟨A5, c5, hs5, hc5, hC5⟩ := Kd.R_reads T.out.r2
      rw [List.length_map, HN.out] at hs4 hs5 hC4 hC5
      have T0 := Aside0.mk T.out.bel
      subst hs4
      subst hs5
      clear hc4 hc5 htk T
      have hNew := new_any (l.map fun c => (c.name, c.super)) A4 A5 c4 c5 wr (by rw [List.length_map, HN.out, List.map_map]; exact hC4) (by rw [List.length_map, HN.out, List.map_map]; exact hC5)
      rw [List.length_map, HN.out] at hNew
      have HNew := Aside0.mk hNew
      clear hNew hC4 hC5
      go_wp2_with fail
      refine HNew.out.mono ?_
      rintro e w1 ⟨pp, rfl, hok, hno, hb⟩
      obtain ⟨he, hhe⟩ : ∃ he, Pl.hier (l.map fun c => (c.name, c.super)) = he := ⟨_, rfl⟩
      rw [hhe] at hok hno HU1 ⊢
      obtain ⟨ec, hh⟩ := he
      simp only at hok hno ⊢
      have HHE := Lib.hid hhe
      have T1 := Aside0.mk (bthen T0.out hb)
      clear HNew hb hhe T0
      by_cases he0 : ec = 0
      rotate_left
      · have hne : (ec == 0) = false := by rw [beq_eq_false_iff_ne]; exact he0
        have hpp := hno he0
        subst hpp
        have HR : Hid (res = (ec, ⟨[], []⟩)) := Lib.hid (by
          rw [HU1.out]
          exact if_pos he0)
        clear HU1 hok hno
        go_wp2
        go_ret2
        rw [HR.out]
        exact ⟨_, rfl, fun h => absurd h he0, fun _ => rfl, T1.out⟩
      subst he0
      obtain ⟨g, hg, hHI⟩ := hok rfl
      subst hg
      have HHI := Aside0.mk hHI
      clear hok hno hHI
      have hmm := @run_makeMap Try.prog
      have hT91 : Try.prog.underlying 91 = some (.map 9 72) := Try.underlying91
      have hKs : Try.prog.underlying 9 = some .string := Try.underlying9
      go_wp2
      obtain ⟨w2, hr1, hm1, hg1⟩ := run_put (P := Try.prog) (s := nObject) (MapIs.made w1) hT91 hKs (.agg objCs.toArray)
      obtain ⟨w4, hr2, hm2, hg2⟩ := run_put (P := Try.prog) (s := nFault) (hm1.below (balloc w2 fltO)) hT91 hKs (.agg (fltCs w2.heap.size).toArray)
      have hr1' := hr1
      have hr2' := hr2
      clear hr1 hr2
      unfold objCs nObject Pl.nil at hr1'
      unfold fltO fltCs nFault nCode Pl.nil at hr2'
      rw [hr1']
      go_wp2
      have hs2 : w1.heap.size + 1 ≤ w2.heap.size := by have := hg1.size; rwa [World.size_alloc] at this
      have S0 : LkSt w1 (w4.alloc (.cells #[.pointer (some ⟨g, 0, none⟩), .map (some w1.heap.size)] 93)) w4.heap.size g w1.heap.size w2.heap.size (Pl.put (Pl.put [] nObject (.agg objCs.toArray)) nFault (.agg (fltCs w2.heap.size).toArray)) := by
        have b1 := (balloc w1 (.map #[] 0)).grown hg1 (by rw [World.size_alloc]; omega) (fun k e => by cases e; omega)
        have b2 := bthen b1 (balloc w2 fltO)
        have b3 := b2.grown hg2 b2.size (fun k e => by cases e; omega)
        refine ⟨bthen b3 (balloc _ _), blk_new _ _, ?_, hm2.below (balloc _ _), Nat.le_refl _⟩
        exact blk_alloc ((hg2.block w2.heap.size (by rw [World.size_alloc]; omega) (fun e => by have := Option.some.inj e; omega)).trans (blk_new w2 fltO)) _
      have C0 : ClsP (fun c cs => clK.K w1 c cs ∨ (c = cFault ∧ cs = fltCs w2.heap.size)) [(nObject, cObject), (nFault, cFault)] (Pl.put (Pl.put [] nObject (.agg objCs.toArray)) nFault (.agg (fltCs w2.heap.size).toArray)) := by
        have hne : ¬ nObject = nFault := by decide
        simp only [Pl.put, hne, if_false]
        exact ⟨rfl, ⟨_, rfl, .inl (objCs_K w1)⟩, rfl, ⟨_, rfl, .inr ⟨rfl, rfl⟩⟩, trivial⟩
      generalize Pl.put (Pl.put [] nObject (Value.agg objCs.toArray)) nFault (Value.agg (fltCs w2.heap.size).toArray) = vs0 at S0 C0
      obtain ⟨pb, hpb⟩ : ∃ pb, w4.heap.size = pb := ⟨_, rfl⟩
      rw [hpb] at S0 ⊢
      generalize w4.alloc (.cells #[.pointer (some ⟨g, 0, none⟩), .map (some w1.heap.size)] 93) = w5 at S0 ⊢
      have S0 := Aside0.mk S0
      have C0 := Aside0.mk C0
      clear hr1' hr2' hm1 hm2 hg1 hg2 hpb hltz hlt hkk hs2
      go_loopw [65] (fun s65 wr => ∃ (j : Nat) (vs : List (Nm × Value)), j ≤ kk ∧ s65 = .int .i64 j ∧ Aside0 (LkSt w1 wr pb g w1.heap.size w2.heap.size vs) ∧ Aside0 (ClsP (fun c cs => clK.K w1 c cs ∨ (c = cFault ∧ cs = fltCs w2.heap.size)) ((l.take j).foldl (fun cs c => Pl.put cs c.name c) [(nObject, cObject), (nFault, cFault)]) vs)) (fun s _ => kk - (intOf s).toNat)
      case atStart => exact ⟨0, vs0, Nat.zero_le _, rfl, S0, C0⟩
      case round =>
        clear S0 C0
        obtain ⟨j, vs, hj, rfl, S, C⟩ := hrel
        by_cases hlt : j < kk
        · have hltz : (j : Int) < (kk : Int) := by omega
          have CW := CM.below (bthen T1.out S.out.bel)
          obtain ⟨ad, rfl, had⟩ := CW.2 (by omega)
          clear had
          have HK := KM.out j (by have := HN.out; omega)
          generalize hx : l.getD j default = x at HK
          have HX : Aside0 (l[j]? = some x) := ⟨by rw [← hx]; exact getD_some _ (by have := HN.out; omega)⟩
          obtain ⟨D0, e0, D1, e1, D2, e2, hcs, _, _, _, _⟩ := clK_open HK
          rw [hcs] at HK
          have HK := Aside0.mk HK
          have l0 := CW.at0 hlt (v := .string x.name) (by rw [hcs]; rfl)
          have l1 := CW.at_ hlt (i := 1) (by decide) (v := .string x.super) (by rw [hcs]; rfl)
          have l2 := CW.at_ hlt (i := 2) (by decide) (v := .slice D0 x.pool.length e0) (by rw [hcs]; rfl)
          have l3 := CW.at_ hlt (i := 3) (by decide) (v := .slice D1 x.fields.length e1) (by rw [hcs]; rfl)
          have l4 := CW.at_ hlt (i := 4) (by decide) (v := .slice D2 x.methods.length e2) (by rw [hcs]; rfl)
          clear hx hcs CW
          go_wp2_with fail
          obtain ⟨gx, hgx⟩ : ∃ gx, gx = wr.heap.size := ⟨_, rfl⟩
          obtain ⟨W1, hW1⟩ : ∃ W1, W1 = wr.alloc (.cells #[.string x.name, .string x.super, .slice D0 x.pool.length e0, .slice D1 x.fields.length e1, .slice D2 x.methods.length e2] 72) := ⟨_, rfl⟩
          have hbx : W1.heap[gx]? = some (.cells #[.string x.name, .string x.super, .slice D0 x.pool.length e0, .slice D1 x.fields.length e1, .slice D2 x.methods.length e2] 72) := by rw [hW1, hgx]; exact blk_new _ _
          have S1 : Aside0 (LkSt w1 W1 pb g w1.heap.size w2.heap.size vs) := ⟨by rw [hW1]; exact S.out.below (balloc _ _)⟩
          rw [← hW1, ← hgx]
          clear hW1 hgx l0 l1 l2 l3 l4 S
          obtain ⟨x0, x1, x2, x3, x4⟩ := Bx.five ⟨hbx⟩
          have y1 : W1.cell? ⟨pb, 1, none⟩ = some (.map (some w1.heap.size)) := Bx.cell ⟨S1.out.blk⟩ (j := 1) rfl
          have x0' : ({ heap := W1.heap, tape := W1.tape, drawn := W1.drawn + 1, os := W1.os, output := W1.output } : World).cell? ⟨gx, 0, none⟩ = some (.string x.name) := x0
          have x1' : ({ heap := W1.heap, tape := W1.tape, drawn := W1.drawn + 1, os := W1.os, output := W1.output } : World).cell? ⟨gx, 1, none⟩ = some (.string x.super) := x1
          have x2' : ({ heap := W1.heap, tape := W1.tape, drawn := W1.drawn + 1, os := W1.os, output := W1.output } : World).cell? ⟨gx, 2, none⟩ = some (.slice D0 x.pool.length e0) := x2
          have x3' : ({ heap := W1.heap, tape := W1.tape, drawn := W1.drawn + 1, os := W1.os, output := W1.output } : World).cell? ⟨gx, 3, none⟩ = some (.slice D1 x.fields.length e1) := x3
          have x4' : ({ heap := W1.heap, tape := W1.tape, drawn := W1.drawn + 1, os := W1.os, output := W1.output } : World).cell? ⟨gx, 4, none⟩ = some (.slice D2 x.methods.length e2) := x4
          have y1' : ({ heap := W1.heap, tape := W1.tape, drawn := W1.drawn + 1, os := W1.os, output := W1.output } : World).cell? ⟨pb, 1, none⟩ = some (.map (some w1.heap.size)) := y1
          obtain ⟨W6, hr3, hm3, hg3⟩ := run_put (P := Try.prog) (s := x.name) (S1.out.map.below (below_drew (Below.refl _ _))) hT91 hKs (.agg #[.string x.name, .string x.super, .slice D0 x.pool.length e0, .slice D1 x.fields.length e1, .slice D2 x.methods.length e2])
          have S2 : Aside0 (LkSt w1 W6 pb g w1.heap.size w2.heap.size _) := ⟨(S1.out.below (below_drew (Below.refl _ _))).put hm3 hg3⟩
          have C2 : Aside0 (ClsP (fun c cs => clK.K w1 c cs ∨ (c = cFault ∧ cs = fltCs w2.heap.size)) ((l.take (j + 1)).foldl (fun cs c => Pl.put cs c.name c) [(nObject, cObject), (nFault, cFault)]) (Pl.put vs x.name (Value.agg #[.string x.name, .string x.super, .slice D0 x.pool.length e0, .slice D1 x.fields.length e1, .slice D2 x.methods.length e2]))) := ⟨by
            rw [List.take_add_one, HX.out, List.foldl_append]
            exact C.out.put x.name x _ (.inl (clK.K_below T1.out HK.out))⟩
          clear hm3 hg3 S1
          go_still_tail 7, (by kernel_rfl)
          go_wp2
          go_roundw
          case rel => exact ⟨j + 1, _, by omega, by go_num, S2, C2⟩
          case measure => simp [intOf]; omega
        · have hltz : ¬ (j : Int) < (kk : Int) := by omega
          have hjk : j = kk := by omega
          subst hjk
          rw [List.take_of_length_le (by have := HN.out; omega)] at C
          obtain ⟨hgood, hin⟩ := hier_ok HHE.out
          have HP : Aside0 (ProgIs wr pb (progOf hh l)) := ⟨S.out.prog hgood HHI.out C.out⟩
          have T2 : Aside0 (Below w.heap.size w wr) := ⟨bthen T1.out S.out.bel⟩
          have HIN := Aside0.mk hin
          have HU2 : Hid (res = (
            if firstOf (members (progOf hh l)) l ≠ 0 then (firstOf (members (progOf hh l)) l, ⟨[], []⟩)
            else if firstOf (fun c => firstOf (pool1 (progOf hh l)) c.pool) l ≠ 0 then (firstOf (fun c => firstOf (pool1 (progOf hh l)) c.pool) l, ⟨[], []⟩)
            else
              if (meth (progOf hh l) nMain nmain).2.2 = false ∨ 0 < (meth (progOf hh l) nMain nmain).2.1.params.length ∨ (meth (progOf hh l) nMain nmain).2.1.ret.kind ≠ 0 then (74, ⟨[], []⟩)
              else (0, progOf hh l) : Int × Pg)) := Lib.hid (by
                rw [HU1.out]
                exact if_neg (by simp))
          clear S C HU1 hgood hin hT91 hKs hmm
          obtain ⟨pg, hpg⟩ : ∃ pg, progOf hh l = pg := ⟨_, rfl⟩
          have HCL : Aside0 (∀ c, c ∈ l → Pl.has pg.h c.name = true ∧ ¬ c.name = nObject) := ⟨by
            rw [← hpg]
            intro c hc
            exact HIN.out _ (List.mem_map.2 ⟨c, hc, rfl⟩)⟩
          rw [hpg] at HP HU2
          have HF : Aside0 ((∃ c, c ∈ l ∧ ∃ x, x ∈ c.pool ∧ 3 ≤ x.kind) → FieldSpec pg) := ⟨fun hx => by rw [← hpg]; exact HF.out hx hh⟩
          clear hpg HIN
          obtain ⟨wp, hwp⟩ : ∃ wp, wp = wr := ⟨_, rfl⟩
          rw [← hwp] at HP T2
          have HE := Lib.hid hwp
          clear hwp
          have hix0 : ∀ W, (Instr.index 94 (.agg #[.func (.func 33) #[.pointer (some ⟨pb, 0, none⟩)] #[], .func (.func 34) #[.pointer (some ⟨pb, 0, none⟩)] #[]]) (.int .i64 0)).run Try.prog W = .ok (.func (.func 33) #[.pointer (some ⟨pb, 0, none⟩)] #[]) W := fun W => by rfl
          have hix1 : ∀ W, (Instr.index 94 (.agg #[.func (.func 33) #[.pointer (some ⟨pb, 0, none⟩)] #[], .func (.func 34) #[.pointer (some ⟨pb, 0, none⟩)] #[]]) (.int .i64 1)).run Try.prog W = .ok (.func (.func 34) #[.pointer (some ⟨pb, 0, none⟩)] #[]) W := fun W => by rfl
          go_wp2
          go_loopw [82] (fun s82 wr => ∃ i : Int, (0 ≤ i ∧ i ≤ 2) ∧ s82 = .int .i64 i ∧ Aside0 (Below wp.heap.size wp wr) ∧ Aside0 (1 ≤ i → firstOf (members pg) l = 0) ∧ Aside0 (2 ≤ i → firstOf (fun c => firstOf (pool1 pg) c.pool) l = 0)) (fun s _ => 2 - (intOf s).toNat)
          case atStart => exact ⟨0, by omega, rfl, ⟨by rw [HE.out]; exact Below.refl _ _⟩, ⟨fun h => absurd h (by omega)⟩, ⟨fun h => absurd h (by omega)⟩⟩
          case round =>
            obtain ⟨i, hi2, rfl, BW, M0, P0⟩ := hrel
            clear HE
            rcases (by omega : i = 0 ∨ i = 1 ∨ i = 2) with rfl | rfl | rfl
            · clear hi2
              go_wp2
              go_loopw [87] (fun s87 wr => ∃ i : Nat, i ≤ j ∧ s87 = .int .i64 i ∧ Aside0 (Below wp.heap.size wp wr) ∧ Aside0 (firstOf (members pg) (l.drop i) = firstOf (members pg) l)) (fun s _ => j - (intOf s).toNat)
              case atStart => exact ⟨0, Nat.zero_le _, rfl, BW, ⟨rfl⟩⟩
              case round =>
                clear BW
                obtain ⟨i, hi, rfl, BW, HL⟩ := hrel
                by_cases hlt : i < j
                · have hltz : (i : Int) < (j : Int) := by omega
                  have hwl := bthen T2.out BW.out
                  have CW := CM.below hwl
                  obtain ⟨ad, rfl, had⟩ := CW.2 (by omega)
                  clear had
                  have HK := KM.out i (by have := HN.out; omega)
                  generalize hx : l.getD i default = x at HK
                  have HX : Aside0 (l[i]? = some x) := ⟨by rw [← hx]; exact getD_some _ (by have := HN.out; omega)⟩
                  obtain ⟨D0, e0, D1, e1, D2, e2, hcs, _, _, _, _⟩ := clK_open HK
                  rw [hcs] at HK
                  have HK := Aside0.mk HK
                  have l0 := CW.at0 hlt (v := .string x.name) (by rw [hcs]; rfl)
                  have l1 := CW.at_ hlt (i := 1) (by decide) (v := .string x.super) (by rw [hcs]; rfl)
                  have l2 := CW.at_ hlt (i := 2) (by decide) (v := .slice D0 x.pool.length e0) (by rw [hcs]; rfl)
                  have l3 := CW.at_ hlt (i := 3) (by decide) (v := .slice D1 x.fields.length e1) (by rw [hcs]; rfl)
                  have l4 := CW.at_ hlt (i := 4) (by decide) (v := .slice D2 x.methods.length e2) (by rw [hcs]; rfl)
                  obtain ⟨v, hv⟩ : ∃ v, members pg x = v := ⟨_, rfl⟩
                  have HS : Hid (firstOf (members pg) (l.drop i) = if v = 0 then firstOf (members pg) (l.drop (i + 1)) else v) := Lib.hid (by rw [firstOf_step HX.out]; simp only [hv])
                  have HV := Aside0.mk hv
                  have hxm := List.mem_of_getElem? HX.out
                  clear hx hcs hv CW
                  go_wp2_with fail
                  have hba := balloc wr (.cells #[.string x.name, .string x.super, .slice D0 x.pool.length e0, .slice D1 x.fields.length e1, .slice D2 x.methods.length e2] 72)
                  refine (members_any pb pg x _ _ (HP.out.below (bthen BW.out hba)) (clK.K_below (bthen hwl hba) HK.out) (HCL.out x hxm).1 (HCL.out x hxm).2).mono ?_
                  rintro e w' ⟨rfl, hb⟩
                  have hv' : members pg x = v := HV.out
                  rw [hv']
                  have hw' := bthen hba hb
                  clear hba hb hv' hxm
                  by_cases hv0 : v = 0
                  · subst hv0
                    have HL2 : Aside0 (firstOf (members pg) (l.drop (i + 1)) = firstOf (members pg) l) := ⟨by rw [← HL.out, HS.out, if_pos rfl]⟩
                    clear HS HV HL
                    go_wp2
                    go_roundw
                    case rel => exact ⟨i + 1, by omega, by go_num, ⟨bthen BW.out hw'⟩, HL2⟩
                    case measure => simp [intOf]; omega
                  · have hne : (v == 0) = false := by rw [beq_eq_false_iff_ne]; exact hv0
                    have hF : firstOf (members pg) l = v := by rw [← HL.out, HS.out, if_neg hv0]
                    have HR : Hid (res = (v, ⟨[], []⟩)) := Lib.hid (by
                      rw [HU2.out]
                      rw [hF]
                      exact if_pos hv0)
                    clear HS HV HL hF
                    go_wp2
                    go_ret2
                    rw [HR.out]
                    exact ⟨_, rfl, fun h => absurd h hv0, fun _ => rfl, bthen hwl hw'⟩
                · have hltz : ¬ (i : Int) < (j : Int) := by omega
                  have hF : firstOf (members pg) l = 0 := by
                    rw [← HL.out, List.drop_of_length_le (by have := HN.out; omega)]
                    rfl
                  have HFF := Aside0.mk hF
                  clear hF HL
                  go_wp2
                  go_roundw
                  case rel => exact ⟨1, by omega, by go_num, BW, ⟨fun _ => HFF.out⟩, ⟨fun h => absurd h (by omega)⟩⟩
                  case measure => simp [intOf]
            · clear hi2
              go_wp2
              go_loopw [87] (fun s87 wr => ∃ i : Nat, i ≤ j ∧ s87 = .int .i64 i ∧ Aside0 (Below wp.heap.size wp wr) ∧ Aside0 (firstOf (fun c => firstOf (pool1 pg) c.pool) (l.drop i) = firstOf (fun c => firstOf (pool1 pg) c.pool) l)) (fun s _ => j - (intOf s).toNat)
              case atStart => exact ⟨0, Nat.zero_le _, rfl, BW, ⟨rfl⟩⟩
              case round =>
                clear BW
                obtain ⟨i, hi, rfl, BW, HL⟩ := hrel
                by_cases hlt : i < j
                · have hltz : (i : Int) < (j : Int) := by omega
                  have hwl := bthen T2.out BW.out
                  have CW := CM.below hwl
                  obtain ⟨ad, rfl, had⟩ := CW.2 (by omega)
                  clear had
                  have HK := KM.out i (by have := HN.out; omega)
                  generalize hx : l.getD i default = x at HK
                  have HX : Aside0 (l[i]? = some x) := ⟨by rw [← hx]; exact getD_some _ (by have := HN.out; omega)⟩
                  obtain ⟨D0, e0, D1, e1, D2, e2, hcs, _, _, _, _⟩ := clK_open HK
                  rw [hcs] at HK
                  have HK := Aside0.mk HK
                  have l0 := CW.at0 hlt (v := .string x.name) (by rw [hcs]; rfl)
                  have l1 := CW.at_ hlt (i := 1) (by decide) (v := .string x.super) (by rw [hcs]; rfl)
                  have l2 := CW.at_ hlt (i := 2) (by decide) (v := .slice D0 x.pool.length e0) (by rw [hcs]; rfl)
                  have l3 := CW.at_ hlt (i := 3) (by decide) (v := .slice D1 x.fields.length e1) (by rw [hcs]; rfl)
                  have l4 := CW.at_ hlt (i := 4) (by decide) (v := .slice D2 x.methods.length e2) (by rw [hcs]; rfl)
                  obtain ⟨v, hv⟩ : ∃ v, (fun c => firstOf (pool1 pg) c.pool) x = v := ⟨_, rfl⟩
                  have HS : Hid (firstOf (fun c => firstOf (pool1 pg) c.pool) (l.drop i) = if v = 0 then firstOf (fun c => firstOf (pool1 pg) c.pool) (l.drop (i + 1)) else v) := Lib.hid (by rw [firstOf_step HX.out]; simp only [hv])
                  have HV := Aside0.mk hv
                  have hxm := List.mem_of_getElem? HX.out
                  clear hx hcs hv CW
                  go_wp2_with fail
                  have hba := balloc wr (.cells #[.string x.name, .string x.super, .slice D0 x.pool.length e0, .slice D1 x.fields.length e1, .slice D2 x.methods.length e2] 72)
                  refine (pool_any pb pg x _ _ (HP.out.below (bthen BW.out hba)) (clK.K_below (bthen hwl hba) HK.out) (fun h => HF.out ⟨x, hxm, h⟩)).mono ?_
                  rintro e w' ⟨rfl, hb⟩
                  have hv' : firstOf (pool1 pg) x.pool = v := HV.out
                  rw [hv']
                  have hw' := bthen hba hb
                  clear hba hb hv' hxm
                  by_cases hv0 : v = 0
                  · subst hv0
                    have HL2 : Aside0 (firstOf (fun c => firstOf (pool1 pg) c.pool) (l.drop (i + 1)) = firstOf (fun c => firstOf (pool1 pg) c.pool) l) := ⟨by rw [← HL.out, HS.out, if_pos rfl]⟩
                    clear HS HV HL
                    go_wp2
                    go_roundw
                    case rel => exact ⟨i + 1, by omega, by go_num, ⟨bthen BW.out hw'⟩, HL2⟩
                    case measure => simp [intOf]; omega
                  · have hne : (v == 0) = false := by rw [beq_eq_false_iff_ne]; exact hv0
                    have hF : firstOf (fun c => firstOf (pool1 pg) c.pool) l = v := by rw [← HL.out, HS.out, if_neg hv0]
                    have HR : Hid (res = (v, ⟨[], []⟩)) := Lib.hid (by
                      rw [HU2.out]
                      rw [M0.out (by omega), hF]
                      rw [if_neg (by decide)]
                      exact if_pos hv0)
                    clear HS HV HL hF
                    go_wp2
                    go_ret2
                    rw [HR.out]
                    exact ⟨_, rfl, fun h => absurd h hv0, fun _ => rfl, bthen hwl hw'⟩
                · have hltz : ¬ (i : Int) < (j : Int) := by omega
                  have hF : firstOf (fun c => firstOf (pool1 pg) c.pool) l = 0 := by
                    rw [← HL.out, List.drop_of_length_le (by have := HN.out; omega)]
                    rfl
                  have HFF := Aside0.mk hF
                  clear hF HL
                  go_wp2
                  go_roundw
                  case rel => exact ⟨2, by omega, by go_num, BW, ⟨fun _ => M0.out (by omega)⟩, ⟨fun _ => HFF.out⟩⟩
                  case measure => simp [intOf]
            · have hm0 := M0.out (by omega)
              have hp0 := P0.out (by omega)
              have HU3 : Hid (res = (if (meth pg nMain nmain).2.2 = false ∨ 0 < (meth pg nMain nmain).2.1.params.length ∨ (meth pg nMain nmain).2.1.ret.kind ≠ 0 then (74, ⟨[], []⟩) else (0, pg) : Int × Pg)) := Lib.hid (by
                rw [HU2.out, hm0, if_neg (by decide), hp0, if_neg (by decide)])
              have HP1 := Aside0.mk (HP.out.below BW.out)
              have hwl := bthen T2.out BW.out
              clear HU2 hm0 hp0 M0 P0 hi2
              have hMeth := meth_any pb pg nMain nmain wr HP1.out
              obtain ⟨q, hq⟩ : ∃ q, meth pg nMain nmain = q := ⟨_, rfl⟩
              rw [hq] at hMeth HU3
              clear hq
              obtain ⟨wn, mm, okb⟩ := q
              simp only at hMeth HU3
              unfold nMain nmain at hMeth
              have HMeth := Aside0.mk hMeth
              clear hMeth
              go_wp2_with fail
              refine HMeth.out.mono ?_
              rintro e w6 ⟨mcs, rfl, hK6, hb⟩
              obtain ⟨A0, c0, A1, c1, A2, c2, rfl, _, _, _, _⟩ := mtK_open hK6
              have T3 := Aside0.mk (bthen hwl hb)
              have HP2 := Aside0.mk (HP1.out.below hb)
              clear hwl hb hK6 HMeth HP1
              have R74 : (okb = false ∨ 0 < mm.params.length ∨ mm.ret.kind ≠ 0) → Hid (res = (74, ⟨[], []⟩)) := fun h => Lib.hid (by rw [HU3.out, if_pos h])
              have R0 : okb = true → mm.params.length = 0 → mm.ret.kind = 0 → Hid (res = (0, pg)) := fun h1 h2 h3 => Lib.hid (by rw [HU3.out, if_neg (by rw [h1, h2, h3]; simp)])
              clear HU3
              cases okb
              · have HR := R74 (.inl rfl)
                clear R74 R0
                go_wp2
                go_ret2
                rw [HR.out]
                exact ⟨_, rfl, fun h => absurd h (by decide), fun _ => rfl, bthen T3.out (balloc _ _)⟩
              · by_cases hpl : mm.params.length = 0
                rotate_left
                · have HR := R74 (.inr (.inl (by omega)))
                  have hpz : (0 : Int) < (mm.params.length : Int) := by omega
                  have hpn : (0 : Nat) < mm.params.length := by omega
                  clear R74 R0
                  go_wp2
                  go_ret2
                  rw [HR.out]
                  exact ⟨_, rfl, fun h => absurd h (by decide), fun _ => rfl, bthen T3.out (balloc _ _)⟩
                · rw [hpl]
                  by_cases hrk : mm.ret.kind = 0
                  · have HR := R0 rfl hpl hrk
                    clear R74 R0 hpl
                    rw [hrk]
                    clear hrk
                    go_wp2
                    go_ret2
                    rw [HR.out]
                    exact ⟨_, rfl, fun _ => ⟨pb, rfl, HP2.out.below (balloc _ _)⟩, fun h => absurd rfl h, bthen T3.out (balloc _ _)⟩
                  · have HR := R74 (.inr (.inr hrk))
                    have hrk' : (mm.ret.kind != 0) = true := by simpa using hrk
                    clear R74 R0 hrk hpl
                    go_wp2
                    go_ret2
                    rw [HR.out]
                    exact ⟨_, rfl, fun h => absurd h (by decide), fun _ => rfl, bthen T3.out (balloc _ _)⟩
end Go.Proofs.Ytpdjkclacbgneaa
