/- verify's joins: a state that comes to an instruction that isn't reached, or whose stack doesn't fit. -/
import Derived.Test.YtpdjkclacbgneaaVFlow
set_option linter.unusedVariables false
set_option linter.unusedSimpArgs false
namespace Go.Proofs.Ytpdjkclacbgneaa
open Go.RowKit Go.Shelf Go.Proofs.YtpdjkclacbgneaaW.PrintWords Go.Proofs.Ytpdjkclacbgneaa.Pl

/-- A state that is handed in. -/
structure Arg (w : World) (s : St) (AL : Option Addr) (cL : Nat) (AS : Option Addr) (cS : Nat) : Prop where
  loc : ∃ B, OwnTy B w (.slice AL s.locals.length cL) s.locals
  stk : ∃ B, OwnTy B w (.slice AS s.stack.length cS) s.stack
  loc9 : s.locals.length ≤ 1000
  stk9 : s.stack.length ≤ 1000
theorem Arg.below {w w1 : World} {s : St} {AL AS : Option Addr} {cL cS : Nat} (h : Arg w s AL cL AS cS) (hb : Below w.heap.size w w1) : Arg w1 s AL cL AS cS := by
  obtain ⟨⟨B, h1⟩, ⟨B', h2⟩, h3, h4⟩ := h
  exact ⟨⟨B, h1.below hb⟩, ⟨B', h2.below hb⟩, h3, h4⟩
abbrev stV (r : Bool) (AL : Option Addr) (nL cL : Nat) (AS : Option Addr) (nS cS : Nat) : Array Value := #[.bool r, .slice AL nL cL, .slice AS nS cS, .slice none 0 0]
/-- All blocks but two are as they were. -/
def Keep2 (w w' : World) (fb lb : Nat) : Prop := ∀ k, k < w.heap.size → k ≠ fb → k ≠ lb → w'.heap[k]? = w.heap[k]?
theorem Keep2.of_below {w w' : World} (fb lb : Nat) (h : Below w.heap.size w w') : Keep2 w w' fb lb := fun k hk _ _ => h.block k hk
theorem Keep2.put4 {w w' : World} {fb lb : Nat} (h : Keep2 w w' fb lb) (i : Nat) (v0 v1 v2 v3 : Value) : Keep2 w (put4 w' lb i v0 v1 v2 v3) fb lb := fun k hk h1 h2 => by rw [heap_put4_ne h2]; exact h k hk h1 h2
theorem Keep2.chg {w w' : World} {fb lb : Nat} (h : Keep2 w w' fb lb) (j : Nat) (v : Value) : Keep2 w (w'.setCell ⟨fb, j, none⟩ v) fb lb := fun k hk h1 h2 => by rw [Below.heap_setCell _ _ _ _ h1]; exact h k hk h1 h2
theorem Keep2.drew {w w' : World} {fb lb : Nat} (h : Keep2 w w' fb lb) : Keep2 w w'.drew fb lb := h
theorem Keep2.trans {w w' w2 : World} {fb lb : Nat} (h : Keep2 w w' fb lb) (hs : w.heap.size ≤ w'.heap.size) (h2 : Keep2 w' w2 fb lb) : Keep2 w w2 fb lb := fun k hk a b => (h2 k (by omega) a b).trans (h k hk a b)
/-- What joins leaves. -/
def JoinsPost (wB w : World) (fb lb pb : Nat) (p : Pg) (c : Cl) (m : Mt) (f : Fl) (e : Ending) (w' : World) : Prop :=
  e = .returned (.int .i64 f.e) ∧ FlowAt wB w' fb lb pb p c m f.l f.changed ∧ Below wB.heap.size w w' ∧ Keep2 w w' fb lb
set_option maxRecDepth 10000 in
set_option maxHeartbeats 1000000 in
theorem joins_high {wB w : World} {fb lb pb : Nat} {p : Pg} {c : Cl} {m : Mt} {l : List St} {ch : Bool} (h : FlowAt wB w fb lb pb p c m l ch) (pc : Nat) (was : St) (hpc : l[pc]? = some was) (s : St) (AL AS : Option Addr) (cL cS : Nat) (hs : Arg w s AL cL AS cS)
    (hcase : m.stack < s.stack.length) :
    Calls Try.prog 51 #[.pointer (some ⟨fb, 0, none⟩), .int .i64 pc, .agg (stV true AL s.locals.length cL AS s.stack.length cS)] w (JoinsPost wB w fb lb pb p c m (joins p m.stack l ch pc s)) := by
  have hres : joins p m.stack l ch pc s = ⟨81, l, ch⟩ := by
    have hg : l.getD pc default = was := by rw [List.getD_eq_getElem?_getD, hpc]; rfl
    unfold joins; simp only [hg]; rw [if_pos hcase]
  rw [hres]
  clear hres
  obtain ⟨L, S, o1, o2, k0, k1, k2, k3, kf⟩ := h.st hpc
  obtain ⟨A1, d1, rfl⟩ := o1.slice
  obtain ⟨A2, d2, rfl⟩ := o2.slice
  obtain ⟨f0, f11, f14, f15, ff⟩ := h.reads
  obtain ⟨ad, had⟩ : ∃ ad : Addr, ad = ⟨lb, 0, none⟩ := ⟨_, rfl⟩
  have hlt := (List.getElem?_eq_some_iff.1 hpc).1
  have hlt' : (pc : Int) < (l.length : Int) := by omega
  have hp0 : (0 : Int) ≤ (pc : Int) := by omega
  have hfb := h.flt
  have hlb := h.llt
  have hsz := h.bel.size
  have H := Aside0.mk h
  have a0 : w.cell? (ad.add (pc * 4)) = some (.bool was.reached) := by rw [had, add_lit]; exact k0
  have a1 : w.cell? (at4 ad pc 1) = some (.slice A1 was.locals.length d1) := by rw [had, at4_lit]; exact k1
  have a2 : w.cell? (at4 ad pc 2) = some (.slice A2 was.stack.length d2) := by rw [had, at4_lit]; exact k2
  have a3 : w.cell? (at4 ad pc 3) = some (.slice none 0 0) := by rw [had, at4_lit]; exact k3
  rw [← had] at f14
  have hadb : (ad.add (pc * 4)).block < w.heap.size := by rw [had, add_lit]; exact hlb
  have HAD := Lib.hid had
  have HS := Aside0.mk hs
  clear h hpc o1 o2 k0 k1 k2 k3 kf had hs
  have hb0 : Below w.heap.size w ((w.alloc (.cells (stV true AL s.locals.length cL AS s.stack.length cS) ST)).alloc (.cells (stV was.reached A1 was.locals.length d1 A2 was.stack.length d2) ST)) := bthen (balloc w _) (balloc _ _)
  go_enter Try.func51, Try.ntmps51
  go_wp2
  go_quiet (fail)
  go_wp2
  go_ret
  exact ⟨rfl, H.out.below (pw_below_drewN hb0 _), (pw_below_drewN hb0 _).mono hsz, Keep2.of_below _ _ (pw_below_drewN hb0 _)⟩
set_option maxRecDepth 10000 in
set_option maxHeartbeats 1000000 in
theorem joins_odd {wB w : World} {fb lb pb : Nat} {p : Pg} {c : Cl} {m : Mt} {l : List St} {ch : Bool} (h : FlowAt wB w fb lb pb p c m l ch) (pc : Nat) (was : St) (hpc : l[pc]? = some was) (s : St) (AL AS : Option Addr) (cL cS : Nat) (hs : Arg w s AL cL AS cS)
    (hcase : ¬ m.stack < s.stack.length) (hr : was.reached = true) (hne : ¬ s.stack.length = was.stack.length) :
    Calls Try.prog 51 #[.pointer (some ⟨fb, 0, none⟩), .int .i64 pc, .agg (stV true AL s.locals.length cL AS s.stack.length cS)] w (JoinsPost wB w fb lb pb p c m (joins p m.stack l ch pc s)) := by
  have hres : joins p m.stack l ch pc s = ⟨81, l, ch⟩ := by
    have hg : l.getD pc default = was := by rw [List.getD_eq_getElem?_getD, hpc]; rfl
    unfold joins; simp only [hg]; rw [if_neg hcase, if_neg (by rw [hr]; decide), if_pos hne]
  rw [hres]
  clear hres
  obtain ⟨L, S, o1, o2, k0, k1, k2, k3, kf⟩ := h.st hpc
  obtain ⟨A1, d1, rfl⟩ := o1.slice
  obtain ⟨A2, d2, rfl⟩ := o2.slice
  obtain ⟨f0, f11, f14, f15, ff⟩ := h.reads
  obtain ⟨ad, had⟩ : ∃ ad : Addr, ad = ⟨lb, 0, none⟩ := ⟨_, rfl⟩
  have hlt := (List.getElem?_eq_some_iff.1 hpc).1
  have hlt' : (pc : Int) < (l.length : Int) := by omega
  have hp0 : (0 : Int) ≤ (pc : Int) := by omega
  have hfb := h.flt
  have hlb := h.llt
  have hsz := h.bel.size
  have H := Aside0.mk h
  have a0 : w.cell? (ad.add (pc * 4)) = some (.bool was.reached) := by rw [had, add_lit]; exact k0
  have a1 : w.cell? (at4 ad pc 1) = some (.slice A1 was.locals.length d1) := by rw [had, at4_lit]; exact k1
  have a2 : w.cell? (at4 ad pc 2) = some (.slice A2 was.stack.length d2) := by rw [had, at4_lit]; exact k2
  have a3 : w.cell? (at4 ad pc 3) = some (.slice none 0 0) := by rw [had, at4_lit]; exact k3
  rw [← had] at f14
  have hadb : (ad.add (pc * 4)).block < w.heap.size := by rw [had, add_lit]; exact hlb
  have HAD := Lib.hid had
  have HS := Aside0.mk hs
  clear h hpc o1 o2 k0 k1 k2 k3 kf had hs
  have hb0 : Below w.heap.size w ((w.alloc (.cells (stV true AL s.locals.length cL AS s.stack.length cS) ST)).alloc (.cells (stV was.reached A1 was.locals.length d1 A2 was.stack.length d2) ST)) := bthen (balloc w _) (balloc _ _)
  have hne' : ((s.stack.length : Int) == (was.stack.length : Int)) = false := by rw [beq_eq_false_iff_ne]; omega
  have hne2 : ((s.stack.length : Int) != (was.stack.length : Int)) = true := by rw [bne_iff_ne]; omega
  rw [hr] at a0 hb0
  clear hne hr
  go_enter Try.func51, Try.ntmps51
  go_wp2
  go_quiet (fail)
  go_wp2
  go_ret
  exact ⟨rfl, H.out.below (pw_below_drewN hb0 _), (pw_below_drewN hb0 _).mono hsz, Keep2.of_below _ _ (pw_below_drewN hb0 _)⟩
set_option maxRecDepth 10000 in
set_option maxHeartbeats 1000000 in
theorem joins_new {wB w : World} {fb lb pb : Nat} {p : Pg} {c : Cl} {m : Mt} {l : List St} {ch : Bool} (h : FlowAt wB w fb lb pb p c m l ch) (pc : Nat) (was : St) (hpc : l[pc]? = some was) (s : St) (AL AS : Option Addr) (cL cS : Nat) (hs : Arg w s AL cL AS cS)
    (hcase : ¬ m.stack < s.stack.length) (hr : was.reached = false) (hsr : s.reached = true) :
    Calls Try.prog 51 #[.pointer (some ⟨fb, 0, none⟩), .int .i64 pc, .agg (stV true AL s.locals.length cL AS s.stack.length cS)] w (JoinsPost wB w fb lb pb p c m (joins p m.stack l ch pc s)) := by
  have hres : joins p m.stack l ch pc s = ⟨0, l.set pc s, true⟩ := by
    have hg : l.getD pc default = was := by rw [List.getD_eq_getElem?_getD, hpc]; rfl
    unfold joins; simp only [hg]; rw [if_neg hcase, if_pos hr]
  rw [hres]
  clear hres
  obtain ⟨L, S, o1, o2, k0, k1, k2, k3, kf⟩ := h.st hpc
  obtain ⟨A1, d1, rfl⟩ := o1.slice
  obtain ⟨A2, d2, rfl⟩ := o2.slice
  obtain ⟨f0, f11, f14, f15, ff⟩ := h.reads
  obtain ⟨ad, had⟩ : ∃ ad : Addr, ad = ⟨lb, 0, none⟩ := ⟨_, rfl⟩
  have hlt := (List.getElem?_eq_some_iff.1 hpc).1
  have hlt' : (pc : Int) < (l.length : Int) := by omega
  have hp0 : (0 : Int) ≤ (pc : Int) := by omega
  have hfb := h.flt
  have hlb := h.llt
  have hsz := h.bel.size
  have H := Aside0.mk h
  have a0 : w.cell? (ad.add (pc * 4)) = some (.bool was.reached) := by rw [had, add_lit]; exact k0
  have a1 : w.cell? (at4 ad pc 1) = some (.slice A1 was.locals.length d1) := by rw [had, at4_lit]; exact k1
  have a2 : w.cell? (at4 ad pc 2) = some (.slice A2 was.stack.length d2) := by rw [had, at4_lit]; exact k2
  have a3 : w.cell? (at4 ad pc 3) = some (.slice none 0 0) := by rw [had, at4_lit]; exact k3
  rw [← had] at f14
  have hadb : (ad.add (pc * 4)).block < w.heap.size := by rw [had, add_lit]; exact hlb
  have HAD := Lib.hid had
  have HS := Aside0.mk hs
  clear h hpc o1 o2 k0 k1 k2 k3 kf had hs
  have hb0 : Below w.heap.size w ((w.alloc (.cells (stV true AL s.locals.length cL AS s.stack.length cS) ST)).alloc (.cells (stV was.reached A1 was.locals.length d1 A2 was.stack.length d2) ST)) := bthen (balloc w _) (balloc _ _)
  rw [hr] at a0 hb0
  clear hr
  go_enter Try.func51, Try.ntmps51
  go_wp2
  go_quiet (fail)
  go_wp2_with fail
  obtain ⟨W2, hW2⟩ : ∃ W2, World.drewN ((w.alloc (.cells (stV true AL s.locals.length cL AS s.stack.length cS) ST)).alloc (.cells (stV false A1 was.locals.length d1 A2 was.stack.length d2) ST)) nq = W2 := ⟨_, rfl⟩
  have hb2 : Below w.heap.size w W2 := by rw [← hW2]; exact pw_below_drewN hb0 nq
  have hbx : W2.heap[w.heap.size]? = some (.cells (stV true AL s.locals.length cL AS s.stack.length cS) ST (0, 0)) := by rw [← hW2]; exact blk_below (blk_alloc (blk_new w _) _) (pw_below_drewN (Below.refl _ _) nq)
  rw [hW2]
  have F2 := Aside0.mk (H.out.below hb2)
  have HS2 := Aside0.mk ((HS.out.below hb2).below (below_drew (Below.refl _ W2)))
  have BX := Aside0.mk hbx
  have B2 := Aside0.mk hb2
  obtain ⟨x0, x1, x2, x3, _⟩ := cells4 hbx
  have y0 : W2.drew.cell? ⟨w.heap.size, 0, none⟩ = some (.bool true) := x0
  have y1 : W2.drew.cell? ⟨w.heap.size, 1, none⟩ = some (.slice AL s.locals.length cL) := x1
  have y2 : W2.drew.cell? ⟨w.heap.size, 2, none⟩ = some (.slice AS s.stack.length cS) := x2
  have y3 : W2.drew.cell? ⟨w.heap.size, 3, none⟩ = some (.slice none 0 0) := x3
  have y4 : W2.drew.cell? ⟨fb, 14, none⟩ = some (.slice (some ad) l.length l.length) := pw_cell_below hb2 f14
  have KC : Aside0 (∀ w3, Below W2.drew.heap.size W2.drew w3 → ∀ (L1 S1 : Value), OwnTy W2.drew.heap.size w3 L1 s.locals → OwnTy W2.drew.heap.size w3 S1 s.stack → Place4 w3 ad pc (.bool true) L1 S1 ∧ FlowAt wB ((((w3.setCell (ad.add (pc * 4)) (.bool true)).setCell (at4 ad pc 1) L1).setCell (at4 ad pc 2) S1).setCell (at4 ad pc 3) (.slice none 0 0)) fb lb pb p c m (l.set pc s) ch ∧
      (∀ a u, a.block ≠ lb → w3.cell? a = some u → ((((w3.setCell (ad.add (pc * 4)) (.bool true)).setCell (at4 ad pc 1) L1).setCell (at4 ad pc 2) S1).setCell (at4 ad pc 3) (.slice none 0 0)).cell? a = some u) ∧ Below wB.heap.size w ((((w3.setCell (ad.add (pc * 4)) (.bool true)).setCell (at4 ad pc 1) L1).setCell (at4 ad pc 2) S1).setCell (at4 ad pc 3) (.slice none 0 0)) ∧ Keep2 w ((((w3.setCell (ad.add (pc * 4)) (.bool true)).setCell (at4 ad pc 1) L1).setCell (at4 ad pc 2) S1).setCell (at4 ad pc 3) (.slice none 0 0)) fb lb) := ⟨fun w3 hb3 L1 S1 hL1 hS1 => by
    have F3 := (F2.out.below (below_drew (Below.refl _ W2))).below hb3
    obtain ⟨cs, q1, q2, _⟩ := F3.lcell
    have hle : wB.heap.size ≤ W2.drew.heap.size := Nat.le_trans F2.out.bel.size (Nat.le_refl _)
    have hf := F3.put hlt (s := s) (hL1.low hle) (hS1.low hle)
    rw [hsr] at hf
    rw [HAD.out, put4_lit]
    have hl := F3.lle
    exact ⟨place4 q1 q2 hlt _ _ _, hf, fun a u ha hu => by rw [cell_put4 ha]; exact hu, set_low (set_low (set_low (set_low (((bthen B2.out (below_drew (Below.refl _ W2))).mono hsz).trans (hb3.mono hle)) hl _) hl _) hl _) hl _, (Keep2.of_below fb lb (bthen (bthen B2.out (below_drew (Below.refl _ W2))) hb3)).put4 pc _ _ _ _⟩⟩
  have nfb : fb ≠ lb := H.out.ne
  have nbx : w.heap.size ≠ lb := by omega
  have CP : Aside0 (Calls Try.prog 75 #[.agg #[.bool true, .slice AL s.locals.length cL, .slice AS s.stack.length cS, .slice none 0 0]] W2.drew fun e w' => ∃ L1 S1, e = .returned (.agg #[.bool true, L1, S1, .slice none 0 0]) ∧ OwnTy W2.drew.heap.size w' L1 s.locals ∧ OwnTy W2.drew.heap.size w' S1 s.stack ∧ NeRow L1 S1 ∧ Below W2.drew.heap.size W2.drew w') := ⟨by
    obtain ⟨⟨b1, h1⟩, ⟨b2, h2⟩, h3, h4⟩ := HS2.out
    have := copied_any (B := 0) s (.slice AL s.locals.length cL) (.slice AS s.stack.length cS) (.slice none 0 0) W2.drew (h1.low (Nat.zero_le _)) (h2.low (Nat.zero_le _)) h3 h4
    rwa [hsr] at this⟩
  clear hW2 hb0 hb2 hbx x0 x1 x2 x3 a0 a1 a2 a3 f0 f11 f14 f15 ff
  go_region_held3 (fun w' => w'.cell? ⟨w.heap.size, 0, none⟩ = some (.bool true) ∧ w'.cell? ⟨w.heap.size, 1, none⟩ = some (.slice AL s.locals.length cL) ∧ w'.cell? ⟨w.heap.size, 2, none⟩ = some (.slice AS s.stack.length cS) ∧ w'.cell? ⟨w.heap.size, 3, none⟩ = some (.slice none 0 0) ∧ w'.cell? ⟨fb, 14, none⟩ = some (.slice (some ad) l.length l.length))
    (first | (with_reducible exact ⟨y0, y1, y2, y3, y4⟩) | (with_reducible exact ⟨z0, z1, z2, z3, z4⟩) | (with_reducible exact ⟨kk _ _ nbx z0, kk _ _ nbx z1, kk _ _ nbx z2, kk _ _ nbx z3, kk _ _ nfb z4⟩))
    (first | (go_at_call 75; (with_reducible refine CP.out.mono ?_); rintro e w3 ⟨L1, S1, rfl, h1, h2, h3, hb3⟩; obtain ⟨⟨⟨u0, p0⟩, p1, ⟨u1, p2⟩, p3, ⟨u2, p4⟩, p5, ⟨u3, p6⟩, p7⟩, hf, kk, kb, k2⟩ := KC.out w3 hb3 L1 S1 h1 h2; obtain ⟨AL1, cL1, rfl⟩ := h1.slice; obtain ⟨AS1, cS1, rfl⟩ := h2.slice; have z0 := pw_cell_below hb3 y0; have z1 := pw_cell_below hb3 y1; have z2 := pw_cell_below hb3 y2; have z3 := pw_cell_below hb3 y3; have z4 := pw_cell_below hb3 y4; have FF := Aside0.mk hf; have B3 := Aside0.mk kb; have K2 := Aside0.mk k2; clear h1 h2 h3 hb3 hf kb k2))
  all_goals
    obtain ⟨W4, hW4⟩ : ∃ W4, (((w3.setCell (ad.add (pc * 4)) (.bool true)).setCell (at4 ad pc 1) (.slice AL1 s.locals.length cL1)).setCell (at4 ad pc 2) (.slice AS1 s.stack.length cS1)).setCell (at4 ad pc 3) (.slice none 0 0) = W4 := ⟨_, rfl⟩
    rw [hW4] at FF B3 K2 ⊢
    clear hW4 kk p0 p1 p2 p3 p4 p5 p6 p7 z0 z1 z2 z3 z4
    obtain ⟨_, _, _, r15, rf⟩ := FF.out.reads
    go_wp2
    go_ret
    exact ⟨rfl, FF.out.chg true, set_low B3.out FF.out.fle _, K2.out.chg 15 _⟩
end Go.Proofs.Ytpdjkclacbgneaa
