/- Rows of whole numbers; what the functions of locks do: behind, comes, goes. -/
import Derived.Test.YtpdjkclacbgneaaGreatVMet1
import Derived.Test.YtpdjkclacbgneaaGreatKPure
set_option linter.unusedVariables false
set_option linter.unusedSimpArgs false
namespace Go.Proofs.YtpdjkclacbgneaaGreat
open Go.RowKit Go.Shelf Go.Proofs.YtpdjkclacbgneaaGreatW.PrintWords Go.Proofs.YtpdjkclacbgneaaGreat.Pl

abbrev KT : TypeId := 106
abbrev IT : TypeId := 3
abbrev BT : TypeId := 4
def fin (l : List Int) : List Value := l.map (Value.int .i64)
def OwnI (B : Nat) (w : World) (v : Value) (l : List Int) : Prop := w.ownsRow B IT 1 v l.length (fin l)
theorem OwnI.below {B : Nat} {w w1 : World} {v : Value} {l : List Int} (h : OwnI B w v l) (hb : Below w.heap.size w w1) : OwnI B w1 v l := pw_own_below h hb
theorem OwnI.slice {B : Nat} {w : World} {v : Value} {l : List Int} (h : OwnI B w v l) : ∃ A c, v = .slice A l.length c := own_slice h
theorem OwnI.low {B B' : Nat} {w : World} {v : Value} {l : List Int} (h : OwnI B w v l) (hb : B' ≤ B) : OwnI B' w v l := own_weaken h hb
theorem OwnI.set {B : Nat} {W : World} {g i : Nat} {cs : Array Value} {t : TypeId} {v u : Value} {l : List Int} (h : OwnI B W v l) (hg : W.heap[g]? = some (.cells cs t (0, 0))) (ht : IT ≠ t) : OwnI B (W.setCell ⟨g, i, none⟩ u) v l := own_setCell h (p := ⟨g, i, none⟩) (own_ne h hg ht) u
theorem OwnI.reads {B : Nat} {w : World} {v : Value} {l : List Int} (h : OwnI B w v l) : ∃ A c, v = .slice A l.length c ∧ l.length ≤ c ∧ (Kd.int .i64).C w A l.length l := by
  obtain ⟨A, c, hv, hr⟩ := own_reads (k := .i64) (xs := l) h
  refine ⟨A, c, hv, ?_, Kd.C_of_reads (d := (0 : Int)) (h1 := fun _ => rfl) hr⟩
  subst hv
  exact own_le h
theorem OwnI.cut {B : Nat} {w : World} {A : Option Addr} {n m c : Nat} {l : List Int} (h : OwnI B w (.slice A n c) l) (hn : n = l.length) (hm : m ≤ n) : OwnI B w (.slice A m c) (l.take m) := by
  subst hn
  have h1 : (l.take m).length = m := by rw [List.length_take]; omega
  unfold OwnI
  rw [h1, fin, List.map_take]
  have := own_take h hm
  rwa [Nat.mul_one] at this
theorem OwnI.nil (B : Nat) (w : World) : OwnI B w (.slice none 0 0) [] := own_nil _ _ _ _
theorem OwnI.empty (W : World) (B : Nat) (hB : B ≤ W.heap.size) : OwnI B (W.alloc (.cells #[] IT)) (.slice (some ⟨W.heap.size, 0, none⟩) 0 0) [] :=
  ⟨rfl, .inr ⟨W.heap.size, 0, #[], rfl, hB, blk_new _ _, Nat.le_refl _, by unfold maxLen; omega, rfl, rfl⟩⟩
theorem intInfo : (Tryz.prog.info? IT).map (fun i => (i.zero, i.size, i.bytes)) = some (some (.int .i64 0), 1, 8) := by kernel_rfl
theorem fin_one (l : List Int) : ∀ u ∈ fin l, u.oneCell' = true := by
  intro u hu
  simp only [fin, List.mem_map] at hu
  obtain ⟨t, _, rfl⟩ := hu
  rfl
theorem int_news {w : World} {A : Option Addr} {l : List Int} (h : (Kd.int .i64).C w A l.length l) (hne : 0 < l.length) : ∃ ad, A = some ad ∧ ∀ (j : Nat) (u : Value), (fin l)[j]? = some u → w.cell? (ad.add j) = some u := by
  obtain ⟨ad, e, _⟩ := Kd.at_int h 0 (Int.le_refl 0) (by omega)
  refine ⟨ad, e, fun j u hu => ?_⟩
  have hj : j < l.length := by simpa [fin] using (List.getElem?_eq_some_iff.1 hu).1
  obtain ⟨ad', e', hc⟩ := Kd.at_int h (j : Int) (by omega) (by omega)
  rw [e] at e'
  cases e'
  rw [Int.toNat_natCast, rd, Int.toNat_natCast] at hc
  rw [hc]
  rw [fin, List.getElem?_map, List.getElem?_eq_getElem hj] at hu
  cases hu
  rw [List.getD_eq_getElem?_getD, List.getElem?_eq_getElem hj]
  rfl
/-- A row appended to a row of the call's own. -/
theorem app_ints {B : Nat} {W : World} {v : Value} {l l2 : List Int} {ad : Addr} {c : Nat} (ty : TypeId) (h : OwnI B W v l) (hB : B ≤ W.heap.size) (h2 : ∀ (j : Nat) (u : Value), (fin l2)[j]? = some u → W.cell? (ad.add j) = some u) (hl : l.length + l2.length ≤ 1000000) :
    ∃ v1 w1, (Builtin.append_ #[81, 81] ty #[v, .slice (some ad) l2.length c]).run Tryz.prog W = .ok v1 w1 ∧ OwnI B w1 v1 (l ++ l2) ∧ W.grownBy w1 v.ownBlock ∧ (v1.ownBlock = v.ownBlock ∨ ∃ b, v1.ownBlock = some b ∧ W.heap.size ≤ b) := by
  obtain ⟨i0, hi, hzz⟩ := Option.map_eq_some_iff.1 intInfo
  simp only [Prod.mk.injEq] at hzz
  obtain ⟨hz0, hz1, hz2⟩ := hzz
  have hst : Tryz.prog.underlying 81 = some (.slice IT) := Tryz.underlying81
  obtain ⟨v1, w1, hrun, h3, hg, _, hat⟩ := run_append_own_at (P := Tryz.prog) (w := W) B 81 ty IT i0 (.int .i64 0) 1 8 hst hi hz0 hz1 hz2 rfl (by decide) v l.length (fin l) h ad l2.length c (fin l2) (by simp [fin])
    h2 (fin_one l2) (by simp only [maxLen]; omega) (by omega) hB
  refine ⟨v1, w1, hrun, ?_, hg, ?_⟩
  · unfold OwnI
    rw [fin, List.map_append, List.length_append]
    exact h3
  · rcases hat with hat | hat
    · exact .inl hat
    · exact .inr ⟨_, hat, Nat.le_refl _⟩
/-- A number appended: made ahead. -/
theorem app_int1 {B : Nat} {W : World} {v : Value} {l : List Int} (x : Int) (h : OwnI B W v l) (hB : B ≤ W.heap.size) (hl : l.length ≤ 900000) :
    ∃ v1 w1, (Builtin.append_ #[81, 81] 81 #[v, .slice (some ⟨W.heap.size, 0, none⟩) 1 1]).run Tryz.prog (W.alloc (.cells #[.int .i64 x] IT)) = .ok v1 w1 ∧ OwnI B w1 v1 (l ++ [x]) ∧ W.grownBy w1 v.ownBlock ∧ (v1.ownBlock = v.ownBlock ∨ ∃ b, v1.ownBlock = some b ∧ W.heap.size ≤ b) := by
  obtain ⟨v1, w1, h1, h2, h3, h4⟩ := app_ints (l2 := [x]) (c := 1) (ad := ⟨W.heap.size, 0, none⟩) 81 (h.below (balloc W (.cells #[.int .i64 x] IT))) (Nat.le_trans hB (balloc W _).size) (fun j u hu => by
    have hj := (List.getElem?_eq_some_iff.1 hu).1
    have hj0 : j = 0 := by simpa [fin] using hj
    subst hj0
    cases hu
    rw [add_zero_off]
    exact Bx.cell ⟨blk_new W _⟩ rfl) (by simp; omega)
  refine ⟨v1, w1, h1, h2, World.grownBy.trans (World.grownBy_alloc W _ _) h3, ?_⟩
  rcases h4 with h4 | ⟨b, h4, h5⟩
  · exact .inl h4
  · exact .inr ⟨b, h4, by have := (balloc W (.cells #[.int .i64 x] IT)).size; omega⟩
/-! ### the walk -/
def lkCs (lb eb n : Nat) (tv m0 m1 m2 m3 m4 m5 m6 m7 : Value) : Array Value := #[m0, m1, m2, m3, m4, m5, m6, m7, .slice (some ⟨lb, 0, none⟩) n n, .slice (some ⟨eb, 0, none⟩) n n, tv]
/-- The cells of a state with its locks. -/
structure StL (B : Nat) (w : World) (tv : Value) (cs : Array Value) (i : Nat) (s : St) (ls : List Int) : Prop where
  out : ∃ L S v, cs[i * 4]? = some (.bool s.reached) ∧ cs[i * 4 + 1]? = some L ∧ cs[i * 4 + 2]? = some S ∧ cs[i * 4 + 3]? = some v ∧ OwnTy B w L s.locals ∧ OwnTy B w S s.stack ∧ OwnI B w v ls ∧ NeRow v tv
/-- The walk that the block kb is; its states in the block lb, what has been met in eb. -/
structure LkAt (wB w : World) (kb lb eb : Nat) (tv : Value) (m : Mt) (L : List St) (s : Wk) : Prop where
  bel : Below wB.heap.size wB w
  kle : wB.heap.size ≤ kb
  lle : wB.heap.size ≤ lb
  ele : wB.heap.size ≤ eb
  nl : s.locks.length = L.length
  nm : s.met.length = L.length
  kcell : ∃ m0 m1 m2 m3 m4 m5 m6 m7, w.heap[kb]? = some (.cells (lkCs lb eb L.length tv m0 m1 m2 m3 m4 m5 m6 m7) KT (0, 0)) ∧ mtK.K wB m [m0, m1, m2, m3, m4, m5, m6, m7]
  lcell : ∃ cs, w.heap[lb]? = some (.cells cs ST (0, 0)) ∧ cs.size = L.length * 4 ∧ ∀ i st ls, L[i]? = some st → s.locks[i]? = some ls → StL wB.heap.size w tv cs i st ls
  ecell : w.heap[eb]? = some (.cells (s.met.map Value.bool).toArray BT (0, 0))
  todo : OwnI wB.heap.size w tv s.todo
theorem StL.below {B : Nat} {w w1 : World} {tv : Value} {cs : Array Value} {i : Nat} {s : St} {ls : List Int} (h : StL B w tv cs i s ls) (hb : Below w.heap.size w w1) : StL B w1 tv cs i s ls := by
  obtain ⟨L, S, v, h1, h2, h3, h4, h5, h6, h7, h8⟩ := h.out
  exact ⟨L, S, v, h1, h2, h3, h4, h5.below hb, h6.below hb, h7.below hb, h8⟩
theorem StL.set {B : Nat} {w : World} {tv : Value} {cs : Array Value} {i : Nat} {s : St} {ls : List Int} (h : StL B w tv cs i s ls) {g j : Nat} {u : Value} {ds : Array Value} {t : TypeId} (hg : w.heap[g]? = some (.cells ds t (0, 0))) (h1 : 38 ≠ t) (h2 : IT ≠ t) : StL B (w.setCell ⟨g, j, none⟩ u) tv cs i s ls := by
  obtain ⟨L, S, v, a1, a2, a3, a4, a5, a6, a7, a8⟩ := h.out
  exact ⟨L, S, v, a1, a2, a3, a4, own_set a5 hg h1, own_set a6 hg h1, a7.set hg h2, a8⟩
/-- Blocks of other kinds stay. -/
def Else (w w' : World) : Prop := ∀ (g : Nat) (cs : Array Value) (t : TypeId), w.heap[g]? = some (.cells cs t (0, 0)) → t ≠ KT → t ≠ ST → t ≠ BT → t ≠ IT → w'.heap[g]? = some (.cells cs t (0, 0))
theorem Else.trans {w w1 w2 : World} (h : Else w w1) (k : Else w1 w2) : Else w w2 := fun g cs t h0 a b c d => k g cs t (h g cs t h0 a b c d) a b c d
theorem Else.below {w w1 : World} (hb : Below w.heap.size w w1) : Else w w1 := fun _ _ _ h _ _ _ _ => blk_below h hb
theorem Else.set {w : World} {g j : Nat} {u : Value} {ds : Array Value} {t : TypeId} (hg : w.heap[g]? = some (.cells ds t (0, 0))) (ht : t = KT ∨ t = ST ∨ t = BT ∨ t = IT) : Else w (w.setCell ⟨g, j, none⟩ u) := fun g' cs t' h a b c d =>
  blk_far h (p := ⟨g, j, none⟩) (blk_ne h hg (by rcases ht with rfl | rfl | rfl | rfl <;> assumption)) u
theorem Else.grown {B : Nat} {w w1 : World} {tv : Value} {l : List Int} (ho : OwnI B w tv l) (hg : w.grownBy w1 tv.ownBlock) : Else w w1 := fun g cs t h _ _ _ d => blk_grown h hg (own_ne ho h (Ne.symm d))
section
variable {wB w : World} {kb lb eb : Nat} {tv : Value} {m : Mt} {L : List St} {s : Wk}
theorem LkAt.below (h : LkAt wB w kb lb eb tv m L s) {w1 : World} (hb : Below w.heap.size w w1) : LkAt wB w1 kb lb eb tv m L s := by
  obtain ⟨h1, h2, h3, h4, n1, n2, ⟨m0, m1, m2, m3, m4, m5, m6, m7, h5, h6⟩, ⟨cs, h7, h8, h9⟩, h10, h11⟩ := h
  exact ⟨h1.trans (hb.mono h1.size), h2, h3, h4, n1, n2, ⟨m0, m1, m2, m3, m4, m5, m6, m7, blk_below h5 hb, h6⟩, ⟨cs, blk_below h7 hb, h8, fun i st ls hi hl => (h9 i st ls hi hl).below hb⟩, blk_below h10 hb, h11.below hb⟩
theorem LkAt.klt (h : LkAt wB w kb lb eb tv m L s) : kb < w.heap.size := by
  obtain ⟨_, _, _, _, _, _, _, _, h1, _⟩ := h.kcell
  exact blk_lt h1
theorem LkAt.reads (h : LkAt wB w kb lb eb tv m L s) :
    w.cell? ⟨kb, 8, none⟩ = some (.slice (some ⟨lb, 0, none⟩) L.length L.length) ∧ w.cell? ⟨kb, 9, none⟩ = some (.slice (some ⟨eb, 0, none⟩) L.length L.length) ∧ w.cell? ⟨kb, 10, none⟩ = some tv ∧ ∀ j, w.frozen? ⟨kb, j, none⟩ = false := by
  obtain ⟨m0, m1, m2, m3, m4, m5, m6, m7, h5, _⟩ := h.kcell
  exact ⟨Bx.cell ⟨h5⟩ (j := 8) rfl, Bx.cell ⟨h5⟩ (j := 9) rfl, Bx.cell ⟨h5⟩ (j := 10) rfl, fun j => blk_frozen h5 j⟩
theorem LkAt.code (h : LkAt wB w kb lb eb tv m L s) : ∃ A cap A' cap', w.cell? ⟨kb, 6, none⟩ = some (.slice A m.code.length cap) ∧ inK.C w A m.code.length m.code ∧ w.cell? ⟨kb, 7, none⟩ = some (.slice A' m.handlers.length cap') := by
  obtain ⟨m0, m1, m2, m3, m4, m5, m6, m7, h5, h6⟩ := h.kcell
  obtain ⟨A0, d0, A1, d1, A2, d2, he, _, _, hc, _⟩ := mtK_open h6
  cases he
  exact ⟨A1, d1, A2, d2, Bx.cell ⟨h5⟩ (j := 6) rfl, Kd.C_below hc h.bel, Bx.cell ⟨h5⟩ (j := 7) rfl⟩
theorem LkAt.met (h : LkAt wB w kb lb eb tv m L s) {i : Nat} (hi : i < L.length) : w.cell? ⟨eb, i, none⟩ = some (.bool (s.met.getD i false)) ∧ ∀ j, w.frozen? ⟨eb, j, none⟩ = false := by
  have hm : i < s.met.length := by have := h.nm; omega
  refine ⟨Bx.cell ⟨h.ecell⟩ ?_, fun j => blk_frozen h.ecell j⟩
  rw [List.getElem?_toArray, List.getElem?_map, List.getElem?_eq_getElem hm, List.getD_eq_getElem?_getD, List.getElem?_eq_getElem hm]
  rfl
theorem LkAt.row (h : LkAt wB w kb lb eb tv m L s) {i : Nat} (hi : i < L.length) : ∃ v, w.cell? ⟨lb, i * 4 + 3, none⟩ = some v ∧ OwnI wB.heap.size w v (s.locks.getD i []) ∧ NeRow v tv ∧ ∀ j, w.frozen? ⟨lb, j, none⟩ = false := by
  obtain ⟨cs, h7, h8, h9⟩ := h.lcell
  have hl : i < s.locks.length := by have := h.nl; omega
  obtain ⟨_, _, v, _, _, _, a4, _, _, a7, a8⟩ := (h9 i _ _ (List.getElem?_eq_getElem hi) (List.getElem?_eq_getElem hl)).out
  refine ⟨v, Bx.cell ⟨h7⟩ a4, ?_, a8, fun j => blk_frozen h7 j⟩
  rw [List.getD_eq_getElem?_getD, List.getElem?_eq_getElem hl]
  exact a7
/-- An instruction is met. -/
theorem LkAt.meet (h : LkAt wB w kb lb eb tv m L s) (i : Nat) : LkAt wB (w.setCell ⟨eb, i, none⟩ (.bool true)) kb lb eb tv m L ⟨s.locks, s.met.set i true, s.todo⟩ := by
  obtain ⟨h1, h2, h3, h4, n1, n2, ⟨m0, m1, m2, m3, m4, m5, m6, m7, h5, h6⟩, ⟨cs, h7, h8, h9⟩, h10, h11⟩ := h
  have e1 : kb ≠ eb := blk_ne h5 h10 (by decide)
  have e2 : lb ≠ eb := blk_ne h7 h10 (by decide)
  refine ⟨set_low h1 h4 _, h2, h3, h4, n1, by simp only [List.length_set]; exact n2, ⟨m0, m1, m2, m3, m4, m5, m6, m7, blk_far h5 (p := ⟨eb, i, none⟩) e1 _, h6⟩, ⟨cs, blk_far h7 (p := ⟨eb, i, none⟩) e2 _, h8, fun j st ls hj hl => (h9 j st ls hj hl).set h10 (by decide) (by decide)⟩, ?_, h11.set h10 (by decide)⟩
  rw [heap_set h10]
  congr 2
  simp [List.map_set]
/-- Its locks are laid down. -/
theorem LkAt.lay (h : LkAt wB w kb lb eb tv m L s) {i : Nat} (hi : i < L.length) {v : Value} {ls : List Int} (hv : OwnI wB.heap.size w v ls) (hn : NeRow v tv) : LkAt wB (w.setCell ⟨lb, i * 4 + 3, none⟩ v) kb lb eb tv m L ⟨s.locks.set i ls, s.met, s.todo⟩ := by
  obtain ⟨h1, h2, h3, h4, n1, n2, ⟨m0, m1, m2, m3, m4, m5, m6, m7, h5, h6⟩, ⟨cs, h7, h8, h9⟩, h10, h11⟩ := h
  have e1 : kb ≠ lb := blk_ne h5 h7 (by decide)
  have e2 : eb ≠ lb := blk_ne h10 h7 (by decide)
  refine ⟨set_low h1 h3 _, h2, h3, h4, by simp only [List.length_set]; exact n1, n2, ⟨m0, m1, m2, m3, m4, m5, m6, m7, blk_far h5 (p := ⟨lb, i * 4 + 3, none⟩) e1 _, h6⟩, ⟨_, heap_set h7, by simp [h8], fun j st ks hj hl => ?_⟩, blk_far h10 (p := ⟨lb, i * 4 + 3, none⟩) e2 _, h11.set h7 (by decide)⟩
  have hjl := (List.getElem?_eq_some_iff.1 hj).1
  have hl0 : j < s.locks.length := by omega
  obtain ⟨Lv, Sv, u, a1, a2, a3, a4, a5, a6, a7, a8⟩ := (h9 j st _ hj (List.getElem?_eq_getElem hl0)).out
  have k0 : i * 4 + 3 ≠ j * 4 := by omega
  have k1 : i * 4 + 3 ≠ j * 4 + 1 := by omega
  have k2 : i * 4 + 3 ≠ j * 4 + 2 := by omega
  by_cases hji : j = i
  · subst hji
    rw [List.getElem?_set_self hl0] at hl
    cases hl
    refine ⟨Lv, Sv, v, ?_, ?_, ?_, ?_, own_set a5 h7 (by decide), own_set a6 h7 (by decide), hv.set h7 (by decide), hn⟩
    · rw [Array.getElem?_setIfInBounds_ne k0]; exact a1
    · rw [Array.getElem?_setIfInBounds_ne k1]; exact a2
    · rw [Array.getElem?_setIfInBounds_ne k2]; exact a3
    · rw [Array.getElem?_setIfInBounds_self, if_pos (by omega)]
  · rw [List.getElem?_set_ne (fun e => hji e.symm), List.getElem?_eq_getElem hl0] at hl
    cases hl
    have k3 : i * 4 + 3 ≠ j * 4 + 3 := by omega
    refine ⟨Lv, Sv, u, ?_, ?_, ?_, ?_, own_set a5 h7 (by decide), own_set a6 h7 (by decide), a7.set h7 (by decide), a8⟩
    · rw [Array.getElem?_setIfInBounds_ne k0]; exact a1
    · rw [Array.getElem?_setIfInBounds_ne k1]; exact a2
    · rw [Array.getElem?_setIfInBounds_ne k2]; exact a3
    · rw [Array.getElem?_setIfInBounds_ne k3]; exact a4
/-- Rows of the call's own that live on while another is written. -/
def Stay (B : Nat) (w w' : World) (tv tv' : Value) : Prop := ∀ u xs, OwnI B w u xs → NeRow u tv → OwnI B w' u xs ∧ NeRow u tv'
theorem Stay.refl (B : Nat) (w : World) (tv : Value) : Stay B w w tv tv := fun u xs h1 h2 => ⟨h1, h2⟩
theorem Stay.trans {B : Nat} {w w1 w2 : World} {tv tv1 tv2 : Value} (h : Stay B w w1 tv tv1) (k : Stay B w1 w2 tv1 tv2) : Stay B w w2 tv tv2 := fun u xs h1 h2 => by
  obtain ⟨a, b⟩ := h u xs h1 h2
  exact k u xs a b
theorem Stay.below {B : Nat} {w w1 : World} {tv : Value} (hb : Below w.heap.size w w1) : Stay B w w1 tv tv := fun u xs h1 h2 => ⟨h1.below hb, h2⟩
theorem Stay.set {B : Nat} {w : World} {tv : Value} {g j : Nat} {u : Value} {ds : Array Value} {t : TypeId} (hg : w.heap[g]? = some (.cells ds t (0, 0))) (ht : IT ≠ t) : Stay B w (w.setCell ⟨g, j, none⟩ u) tv tv := fun _ _ h1 h2 => ⟨h1.set hg ht, h2⟩
/-- Another row of what is to be gone through, with nothing said of what it has. -/
theorem LkAt.swap (h : LkAt wB w kb lb eb tv m L s) {w1 : World} {tv1 : Value} {td : List Int} (hg : w.grownBy w1 tv.ownBlock) (ho : OwnI wB.heap.size w1 tv1 td) (hat : tv1.ownBlock = tv.ownBlock ∨ ∃ b, tv1.ownBlock = some b ∧ w.heap.size ≤ b) :
    LkAt wB (w1.setCell ⟨kb, 10, none⟩ tv1) kb lb eb tv1 m L ⟨s.locks, s.met, td⟩ ∧ Stay wB.heap.size w (w1.setCell ⟨kb, 10, none⟩ tv1) tv tv1 ∧ Else w (w1.setCell ⟨kb, 10, none⟩ tv1) := by
  obtain ⟨h1, h2, h3, h4, n1, n2, ⟨m0, m1, m2, m3, m4, m5, m6, m7, h5, h6⟩, ⟨cs, h7, h8, h9⟩, h10, h11⟩ := h
  have g5 := blk_grown h5 hg (own_ne h11 h5 (by decide))
  have g7 := blk_grown h7 hg (own_ne h11 h7 (by decide))
  have g10 := blk_grown h10 hg (own_ne h11 h10 (by decide))
  have e1 : lb ≠ kb := blk_ne h7 h5 (by decide)
  have e2 : eb ≠ kb := blk_ne h10 h5 (by decide)
  have stay : Stay wB.heap.size w (w1.setCell ⟨kb, 10, none⟩ tv1) tv tv1 := fun u xs k1 k2 => ⟨OwnI.set (own_other k1 hg (ne_other (ne_symm k2))) g5 (by decide), ne_append' k2 hat k1⟩
  refine ⟨⟨set_low (pw_below_grown h1 _ h1.size hg (fun k hk => own_base h11 k hk)) h2 _, h2, h3, h4, n1, n2, ⟨m0, m1, m2, m3, m4, m5, m6, m7, by rw [heap_set g5]; rfl, h6⟩, ⟨cs, blk_far g7 (p := ⟨kb, 10, none⟩) e1 _, h8, fun j st ls hj hl => ?_⟩, blk_far g10 (p := ⟨kb, 10, none⟩) e2 _, ho.set g5 (by decide)⟩, stay, (Else.grown h11 hg).trans (Else.set g5 (.inl rfl))⟩
  obtain ⟨Lv, Sv, u, a1, a2, a3, a4, a5, a6, a7, a8⟩ := (h9 j st ls hj hl).out
  obtain ⟨b1, b2⟩ := stay u ls a7 a8
  have ht : 38 ≠ IT := by decide
  exact ⟨Lv, Sv, u, a1, a2, a3, a4, own_set (own_other a5 hg (own_type_ne a5 h11 ht)) g5 (by decide), own_set (own_other a6 hg (own_type_ne a6 h11 ht)) g5 (by decide), b1, b2⟩
end


theorem int_open {w : World} {x : Int} {cs : List Value} (h : (Kd.int .i64).K w x cs) : cs = [.int .i64 x] := h
theorem cells_int {w : World} {A : Option Addr} {l : List Int} (h : (Kd.int .i64).C w A l.length l) : Cells w A l.length 1 (fun j => [.int .i64 (l.getD j 0)]) := cells_is 0 (fun _ _ => int_open) h
set_option maxHeartbeats 400000 in
set_option maxRecDepth 10000 in
theorem index_any (l : List Int) (x : Int) (A : Option Addr) (c : Nat) (w : World) (hl : (Kd.int .i64).C w A l.length l) :
    Calls Tryz.prog 92 #[.slice A l.length c, .int .i64 x] w fun e w' => ∃ r : Int, e = .returned (.int .i64 r) ∧ (0 ≤ r ↔ x ∈ l) ∧ Below w.heap.size w w' := by
  have CL := cells_int hl
  clear hl
  have hmax := CL.1
  go_enter Tryz.func92, Tryz.ntmps92
  go_wp2
  go_loopw [8] (fun s8 wr => ∃ kk : Nat, kk ≤ l.length ∧ s8 = .int .i64 kk ∧ Aside0 (Below w.heap.size w wr) ∧ Aside0 (∀ (j : Nat) (y : Int), j < kk → l[j]? = some y → ¬ y = x)) (fun s _ => l.length - (intOf s).toNat)
  case atStart => exact ⟨0, Nat.zero_le _, rfl, ⟨Below.refl _ _⟩, ⟨fun j _ hj => absurd hj (Nat.not_lt_zero _)⟩⟩
  case round =>
    obtain ⟨kk, hkk, rfl, BW, HE⟩ := hrel
    by_cases hlt : kk < l.length
    · have hltz : (kk : Int) < (l.length : Int) := by omega
      have CW := CL.below BW.out
      obtain ⟨ad, rfl, had⟩ := CW.2 (by omega)
      clear had
      generalize hy : l.getD kk 0 = y
      have HY : Aside0 (l[kk]? = some y) := ⟨by rw [← hy, List.getD_eq_getElem?_getD, List.getElem?_eq_getElem hlt]; rfl⟩
      have l0 := CW.one hlt (v := .int .i64 y) (by rw [← hy])
      have HLT := Lib.hid hlt
      clear hy hlt
      by_cases hxy : x = y
      · have hm : Hid (x ∈ l) := Lib.hid (by rw [hxy]; exact List.mem_of_getElem? HY.out)
        have hq : (x == y) = true := by rw [hxy]; simp
        clear hxy
        go_wp2
        go_ret
        exact ⟨(kk : Int), rfl, ⟨fun _ => hm.out, fun _ => Int.natCast_nonneg kk⟩, BW.out⟩
      · have HE2 : Aside0 (∀ (j : Nat) (z : Int), j < kk + 1 → l[j]? = some z → ¬ z = x) := ⟨fun j a hj ha => by
          rcases Nat.lt_succ_iff_lt_or_eq.1 hj with h | h
          · exact HE.out j a h ha
          · subst h
            rw [HY.out] at ha
            cases ha
            exact fun e => hxy e.symm⟩
        have hq : (x == y) = false := by rw [beq_eq_false_iff_ne]; exact hxy
        clear hxy
        go_wp2
        go_roundw
        case rel => exact ⟨kk + 1, HLT.out, by go_num, BW, HE2⟩
        case measure => have := HLT.out; simp [intOf]; omega
    · have hltz : ¬ (kk : Int) < (l.length : Int) := by omega
      have hm : Hid (¬ x ∈ l) := Lib.hid (by
        intro hx
        obtain ⟨j, hj, e⟩ := List.getElem_of_mem hx
        exact HE.out j x (by omega) (by rw [List.getElem?_eq_getElem hj, e]) rfl)
      clear hlt
      go_wp2
      go_ret
      exact ⟨-1, rfl, ⟨fun h => absurd h (by decide), fun h => absurd h hm.out⟩, BW.out⟩
set_option maxHeartbeats 400000 in
theorem contains_any (l : List Int) (x : Int) (A : Option Addr) (c : Nat) (w : World) (hl : (Kd.int .i64).C w A l.length l) :
    Calls Tryz.prog 78 #[.slice A l.length c, .int .i64 x] w fun e w' => e = .returned (.bool (decide (x ∈ l))) ∧ Below w.heap.size w w' := by
  have IX := Aside0.mk (index_any l x A c w hl)
  clear hl
  go_enter Tryz.func78, Tryz.ntmps78
  go_wp2_with fail
  refine IX.out.mono ?_
  rintro e w' ⟨r, rfl, hr, hb⟩
  have HR := Lib.hid hr
  clear hr
  by_cases h0 : 0 ≤ r
  · have hm : Hid (decide (x ∈ l) = true) := Lib.hid (decide_eq_true (HR.out.1 h0))
    have h1 : r ≥ 0 := h0
    go_wp2
    go_ret
    exact ⟨by rw [hm.out]; rfl, hb⟩
  · have hm : Hid (decide (x ∈ l) = false) := Lib.hid (decide_eq_false (fun h => h0 (HR.out.2 h)))
    have h1 : ¬ r ≥ 0 := h0
    go_wp2
    go_ret
    exact ⟨by rw [hm.out]; exact congrArg (fun b => Ending.returned (Value.bool b)) (decide_eq_false (by omega)), hb⟩
set_option maxHeartbeats 400000 in
set_option maxRecDepth 10000 in
theorem equalI_any (l m : List Int) (A B : Option Addr) (c d : Nat) (w : World) (hl : (Kd.int .i64).C w A l.length l) (hm : (Kd.int .i64).C w B m.length m) :
    Calls Tryz.prog 61 #[.slice A l.length c, .slice B m.length d] w fun e w' => e = .returned (.bool (decide (l = m))) ∧ Below w.heap.size w w' := by
  have CL := cells_int hl
  have CM := cells_int hm
  clear hl hm
  by_cases hn : l.length = m.length
  rotate_left
  · have hu : decide (l = m) = false := decide_eq_false fun e => hn (by rw [e])
    rw [hu]
    have hz : ((l.length : Int) == (m.length : Int)) = false := by rw [beq_eq_false_iff_ne]; omega
    have hz2 : (l.length == m.length) = false := by rw [beq_eq_false_iff_ne]; exact hn
    clear hu
    go_enter Tryz.func61, Tryz.ntmps61
    go_wp2
    go_ret
    exact ⟨rfl, Below.refl _ _⟩
  obtain ⟨n, hl⟩ : ∃ n, l.length = n := ⟨_, rfl⟩
  have hm : m.length = n := by omega
  rw [hl] at CL ⊢
  rw [hm] at CM ⊢
  have HL := Lib.hid hl
  have HM := Lib.hid hm
  clear hn hl hm
  have hmax := CL.1
  obtain ⟨q, hq⟩ : ∃ q, decide (l = m) = q := ⟨_, rfl⟩
  rw [hq]
  have HQ := Lib.hid hq
  clear hq
  go_enter Tryz.func61, Tryz.ntmps61
  go_wp2
  go_loopw [13] (fun s13 wr => ∃ kk : Nat, kk ≤ n ∧ s13 = .int .i64 kk ∧ Aside0 (Below w.heap.size w wr) ∧ Aside0 (∀ j x y, j < kk → l[j]? = some x → m[j]? = some y → x = y)) (fun s _ => n - (intOf s).toNat)
  case atStart => exact ⟨0, Nat.zero_le _, rfl, ⟨Below.refl _ _⟩, ⟨fun j _ _ hj => absurd hj (Nat.not_lt_zero _)⟩⟩
  case round =>
    obtain ⟨kk, hkk, rfl, BW, HE⟩ := hrel
    by_cases hlt : kk < n
    · have hltz : (kk : Int) < (n : Int) := by omega
      have CW := CL.below BW.out
      have DW := CM.below BW.out
      obtain ⟨ad, rfl, had⟩ := CW.2 (by omega)
      obtain ⟨ae, rfl, had2⟩ := DW.2 (by omega)
      clear had had2
      generalize hx : l.getD kk 0 = x
      generalize hy : m.getD kk 0 = y
      have HX : Aside0 (l[kk]? = some x) := ⟨by rw [← hx, List.getD_eq_getElem?_getD, List.getElem?_eq_getElem (by have := HL.out; omega)]; rfl⟩
      have HY : Aside0 (m[kk]? = some y) := ⟨by rw [← hy, List.getD_eq_getElem?_getD, List.getElem?_eq_getElem (by have := HM.out; omega)]; rfl⟩
      have l0 := CW.one hlt (v := .int .i64 x) (by rw [← hx])
      have m0 := DW.one hlt (v := .int .i64 y) (by rw [← hy])
      clear hx hy
      by_cases hxy : x = y
      · have HE2 : Aside0 (∀ j x y, j < kk + 1 → l[j]? = some x → m[j]? = some y → x = y) := ⟨fun j a b hj ha hb => by
          rcases Nat.lt_succ_iff_lt_or_eq.1 hj with h | h
          · exact HE.out j a b h ha hb
          · subst h
            rw [HX.out] at ha
            rw [HY.out] at hb
            cases ha
            cases hb
            exact hxy⟩
        have hq : (x == y) = true := by rw [hxy]; simp
        have hq2 : (x != y) = false := by rw [hxy]; simp
        clear hxy
        go_wp2_with fail
        go_quiet (fail)
        go_wp2
        go_roundw
        case rel => exact ⟨kk + 1, by omega, by go_num, ⟨pw_below_drewN BW.out _⟩, HE2⟩
        case measure => simp [intOf]; omega
      · have HR : Hid (q = false) := Lib.hid (by
          rw [← HQ.out]
          refine decide_eq_false fun e => hxy ?_
          have h1 := HX.out
          rw [e, HY.out] at h1
          cases h1
          rfl)
        have hq : (x == y) = false := by rw [beq_eq_false_iff_ne]; exact hxy
        have hq2 : (x != y) = true := by rw [bne_iff_ne]; exact hxy
        clear hxy
        go_wp2_with fail
        go_quiet (fail)
        go_wp2
        go_ret
        exact ⟨by rw [HR.out]; rfl, pw_below_drewN BW.out _⟩
    · have hltz : ¬ (kk : Int) < (n : Int) := by omega
      have HR : Hid (q = true) := Lib.hid (by
        rw [← HQ.out]
        exact decide_eq_true (decide_list (by rw [HL.out, HM.out]) (fun j x y hx hy => HE.out j x y (by have := (List.getElem?_eq_some_iff.1 hx).1; have := HL.out; omega) hx hy)))
      go_wp2
      go_ret
      exact ⟨by rw [HR.out]; rfl, BW.out⟩
set_option maxRecDepth 10000 in
set_option maxHeartbeats 400000 in
theorem cloneI_any {B : Nat} (v : Value) (l : List Int) (w : World) (h : OwnI B w v l) (hl : l.length ≤ 1000) :
    Calls Tryz.prog 62 #[v] w fun e w' => ∃ v1, e = .returned v1 ∧ OwnI w.heap.size w' v1 l ∧ Below w.heap.size w w' := by
  have hst : Tryz.prog.underlying 81 = some (.slice IT) := Tryz.underlying81
  have hnil : ∀ (w : World) (a : Option Addr) (n c n' c' : Nat), (binOp .eql 81 (.slice a n c) (.slice none n' c')).run Tryz.prog w = .ok (.bool a.isNone) w := fun w a n c n' c' => Lib.run_eql_slice_nil w 81 IT a n c n' c' hst
  rcases h.2 with ⟨rfl, hn⟩ | ⟨g, cap, cur, rfl, hg1, hg2, hg3, hg4, hg5, hg6⟩
  · obtain rfl : l = [] := List.eq_nil_of_length_eq_zero hn
    clear h hl
    go_enter Tryz.func62, Tryz.ntmps62
    go_wp2
    go_ret
    exact ⟨_, rfl, own_nil _ _ _ _, Below.refl _ _⟩
  · have hb1 := blk_alloc hg2 (.cells #[] IT)
    obtain ⟨v1, w1, E1, h2, hgr, hat⟩ := app_ints (c := cap) (ad := ⟨g, 0, none⟩) (l2 := l) 81 (OwnI.empty w w.heap.size (Nat.le_refl _)) (by simp) (fun j u hu => by
      have hj : j < l.length := by simpa [fin] using (List.getElem?_eq_some_iff.1 hu).1
      rw [add_zero_off]
      refine Bx.cell ⟨hb1⟩ ?_
      rw [← hg6, List.getElem?_take, if_pos (by omega)] at hu
      rw [← Array.getElem?_toList]
      exact hu) (by simpa using Nat.le_trans hl (by decide))
    rw [List.nil_append] at h2
    have hsz : (w.alloc (.cells #[] IT)).heap.size = w.heap.size + 1 := by simp
    have HB : Aside0 (Below w.heap.size w w1) := ⟨pw_below_grown (balloc w _) _ (by simp) hgr (fun k e => by cases e; exact Nat.le_refl _)⟩
    have H2 := Aside0.mk h2
    have hi := Option.map_eq_some_iff.1 intInfo
    clear h hb1 h2 hgr hat hg1 hg2 hg4 hg5 hg6
    go_enter Tryz.func62, Tryz.ntmps62
    go_wp2_with (at_builtin; refine wpList_append_E rfl _ _ _ rfl rfl rfl E1 ?_)
    go_wp2
    go_ret
    exact ⟨_, rfl, H2.out, HB.out⟩


/-- What behind hands back. -/
def BehPost (B : Nat) (w : World) (v : Value) (b : List Int × Int) (e : Ending) (w' : World) : Prop :=
  ∃ v1, e = .returned (.tuple #[v1, .int .i64 b.2]) ∧ Below w.heap.size w w' ∧ (b.2 = 0 → OwnI B w' v1 b.1 ∧ (v1.ownBlock = v.ownBlock ∨ ∃ k, v1.ownBlock = some k ∧ w.heap.size ≤ k))
theorem rd_last {ls : List Int} {n : Nat} (h : ls.length = n + 1) : rd ls ((n : Int) + 1 - 1) = ls.getD (ls.length - 1) 0 := by
  unfold rd
  rw [h]
  congr 1
  omega
theorem fresh_blk {B B' : Nat} {w : World} {v v0 : Value} {l : List Int} (h : OwnI B' w v l) (hne : 0 < l.length) (hB : B ≤ B') : v.ownBlock = v0.ownBlock ∨ ∃ k, v.ownBlock = some k ∧ B ≤ k := by
  rcases h.2 with ⟨_, h0⟩ | ⟨g, cap, cur, rfl, hb, _⟩
  · omega
  · exact .inr ⟨g, rfl, by omega⟩
/-- A clone, and one more appended: the clone made ahead of the one more, or behind it. -/
theorem clone_app {w1 w2 : World} {v2 : Value} {ls : List Int} (a : Int) (ho : OwnI w1.drew.heap.size w2 v2 ls) (hb : Below w1.drew.heap.size w1.drew w2) (hl : ls.length ≤ 6) :
    ∃ A2 c2 v3 w3, v2 = .slice A2 ls.length c2 ∧ (Builtin.append_ #[81, 81] 81 #[.slice A2 ls.length c2, .slice (some ⟨w2.heap.size, 0, none⟩) 1 1]).run Tryz.prog (w2.alloc (.cells #[.int .i64 a] IT)) = .ok v3 w3 ∧ OwnI w1.heap.size w3 v3 (ls ++ [a]) ∧ Below w1.heap.size w1 w3 := by
  obtain ⟨A2, c2, rfl⟩ := ho.slice
  obtain ⟨v3, w3, E3, h1, h2, _⟩ := app_int1 a ho hb.size (by omega)
  exact ⟨A2, c2, v3, w3, rfl, E3, h1, pw_below_grown (bthen (below_drew (Below.refl w1.heap.size w1)) hb) _ hb.size h2 (fun k e => own_base ho k e)⟩
theorem clone_app2 {w1 w2 : World} {v2 : Value} {ls : List Int} (a : Int) (ho : OwnI (w1.drew.alloc (.cells #[.int .i64 a] IT)).heap.size w2 v2 ls) (hb : Below (w1.drew.alloc (.cells #[.int .i64 a] IT)).heap.size (w1.drew.alloc (.cells #[.int .i64 a] IT)) w2) (hl : ls.length ≤ 6) :
    ∃ A2 c2 v3 w3, v2 = .slice A2 ls.length c2 ∧ (Builtin.append_ #[81, 81] 81 #[.slice A2 ls.length c2, .slice (some ⟨w1.heap.size, 0, none⟩) 1 1]).run Tryz.prog w2 = .ok v3 w3 ∧ OwnI w1.heap.size w3 v3 (ls ++ [a]) ∧ Below w1.heap.size w1 w3 := by
  obtain ⟨A2, c2, rfl⟩ := ho.slice
  have hs := hb.size
  have hs2 : w1.heap.size ≤ (w1.drew.alloc (.cells #[.int .i64 a] IT)).heap.size := by simp
  obtain ⟨v3, w3, E3, h1, h2, _⟩ := app_ints (l2 := [a]) (c := 1) (ad := ⟨w1.heap.size, 0, none⟩) 81 ho hs (fun j u hu => by
    have hj := (List.getElem?_eq_some_iff.1 hu).1
    have hj0 : j = 0 := by simpa [fin] using hj
    subst hj0
    cases hu
    rw [add_zero_off]
    exact Bx.cell ⟨blk_below (blk_new w1.drew _) hb⟩ rfl) (by simp; omega)
  exact ⟨A2, c2, v3, w3, rfl, E3, h1.low hs2, pw_below_grown (bthen (bthen (below_drew (Below.refl w1.heap.size w1)) (balloc w1.drew _)) hb) _ (Nat.le_trans hs2 hs) h2 (fun k e => Nat.le_trans hs2 (own_base ho k e))⟩
set_option maxHeartbeats 1000000 in
set_option maxRecDepth 10000 in
theorem behind_any {B : Nat} (op a : Int) (ls : List Int) (v : Value) (w : World) (h : OwnI B w v ls) (hB : B ≤ w.heap.size) (hl : ls.length ≤ 6) :
    Calls Tryz.prog 63 #[.agg #[.int .i64 op, .int .i64 a], v] w (BehPost B w v (behind ⟨op, a⟩ ls)) := by
  obtain ⟨A, c, rfl, hc, hC⟩ := h.reads
  obtain ⟨W0, hW0⟩ : ∃ W0, w.alloc (.cells #[.int .i64 op, .int .i64 a] 29) = W0 := ⟨_, rfl⟩
  have hb0 : Below w.heap.size w W0 := by rw [← hW0]; exact balloc _ _
  have hx : W0.heap[w.heap.size]? = some (.cells #[.int .i64 op, .int .i64 a] 29 (0, 0)) := by rw [← hW0]; exact blk_new _ _
  have CT := Aside0.mk (contains_any ls a A c W0 (Kd.C_below hC hb0))
  have HX := Aside0.mk hx
  have HO := Aside0.mk (h.below hb0)
  have HB0 := Aside0.mk hb0
  have HHB := Lib.hid (Nat.le_trans hB hb0.size)
  have HL := Lib.hid hl
  have HBW := Lib.hid hB
  have HLC := Lib.hid hc
  obtain ⟨x0, x1⟩ := Bx.two ⟨hx⟩
  clear h hC hb0 hx hB hc
  go_enter Tryz.func63, Tryz.ntmps63
  go_wp2_with fail
  refine CT.out.mono ?_
  rintro e w1 ⟨rfl, hb1⟩
  obtain ⟨q, hq⟩ : ∃ q, decide (a ∈ ls) = q := ⟨_, rfl⟩
  rw [hq]
  have HQ := Lib.hid hq
  have HX1 := Aside0.mk (blk_below HX.out hb1)
  have HO1 := Aside0.mk (HO.out.below hb1)
  have HB1 := Aside0.mk (bthen HB0.out hb1)
  have HHB1 := Lib.hid (Nat.le_trans HHB.out hb1.size)
  clear x0 x1 hq hb1 CT HX HO HB0 HHB hW0
  obtain ⟨x0, x1⟩ := Bx.two ⟨HX1.out⟩
  have bad : ∀ w', Below w.heap.size w w' → behind ⟨op, a⟩ ls = ([], 90) → BehPost B w (.slice A ls.length c) (behind ⟨op, a⟩ ls) (.returned (.tuple #[.slice none 0 0, .int .i64 90])) w' := fun w' hb e => by
    rw [e]
    exact ⟨_, rfl, hb, fun h => absurd h (by decide)⟩
  have same : behind ⟨op, a⟩ ls = (ls, 0) → BehPost B w (.slice A ls.length c) (behind ⟨op, a⟩ ls) (.returned (.tuple #[.slice A ls.length c, .int .i64 0])) w1 := fun e => by
    rw [e]
    exact ⟨_, rfl, HB1.out, fun _ => ⟨HO1.out, .inl rfl⟩⟩
  have BAD := Aside0.mk bad
  have SAME := Aside0.mk same
  clear bad same
  by_cases h38 : op = 38
  · subst h38
    have hbe : behind ⟨38, a⟩ ls = if a ∈ ls ∨ 6 ≤ ls.length then ([], 90) else (ls ++ [a], 0) := rfl
    cases q with
    | true =>
      rw [if_pos (.inl (of_decide_eq_true HQ.out))] at hbe
      have HE := Lib.hid hbe
      clear hbe
      go_wp2
      go_ret2
      exact BAD.out _ HB1.out HE.out
    | false =>
      by_cases h6 : 6 ≤ ls.length
      · rw [if_pos (.inr h6)] at hbe
        have HE := Lib.hid hbe
        have h6z : (ls.length : Int) ≥ 6 := by omega
        clear hbe
        go_wp2
        go_ret2
        exact BAD.out _ HB1.out HE.out
      · rw [if_neg (fun hh => hh.elim (of_decide_eq_false HQ.out) h6)] at hbe
        have HE := Lib.hid hbe
        have h6z : ¬ (ls.length : Int) ≥ 6 := by omega
        clear hbe h6
        have x1d : w1.drew.cell? ⟨w.heap.size, 1, none⟩ = some (.int .i64 a) := x1
        have b1d := below_drew (Below.refl w1.heap.size w1)
        have CL := Aside0.mk (cloneI_any (.slice A ls.length c) ls w1.drew (HO1.out.below b1d) (by have := HL.out; omega))
        have CM := Aside0.mk (cloneI_any (.slice A ls.length c) ls (w1.drew.alloc (.cells #[.int .i64 a] IT)) ((HO1.out.below b1d).below (balloc _ _)) (by have := HL.out; omega))
        have eK := Aside0.mk (enters_of Tryz.func62 (by kernel_rfl) rfl)
        have hHB1 := HHB1.out
        clear b1d
        go_wp2_with fail
        go_region_law (first
          | (refine append_event (v := .slice A2 ls.length c2) (u := .slice (some ⟨w2.heap.size, 0, none⟩) 1 1) _ _ (by rfl) rfl rfl rfl (by with_reducible exact E3) ?_)
          | (refine append_event (v := .slice A2 ls.length c2) (u := .slice (some ⟨w1.heap.size, 0, none⟩) 1 1) _ _ (by rfl) rfl rfl rfl (by with_reducible exact E3) ?_)
          | (refine call_event eK.out CL.out (by rfl) rfl (by rfl) ?_; rintro e w2 ⟨v2, rfl, ho2, hb2⟩; refine ⟨_, rfl, ?_⟩; have y1 := pw_cell_below hb2 x1d; obtain ⟨A2, c2, v3, w3, rfl, E3, h31, h32⟩ := clone_app a ho2 hb2 HL.out; have P3 := Aside0.mk (And.intro h31 h32); clear ho2 hb2 h31 h32)
          | (refine call_event eK.out CM.out (by rfl) rfl (by rfl) ?_; rintro e w2 ⟨v2, rfl, ho2, hb2⟩; refine ⟨_, rfl, ?_⟩; obtain ⟨A2, c2, v3, w3, rfl, E3, h31, h32⟩ := clone_app2 a ho2 hb2 HL.out; have P3 := Aside0.mk (And.intro h31 h32); clear ho2 hb2 h31 h32))
        all_goals
          go_wp2
          go_ret2
          rw [HE.out]
          exact ⟨v3, rfl, bthen HB1.out P3.out.2, fun _ => ⟨P3.out.1.low (Nat.le_trans HBW.out HB1.out.size), fresh_blk P3.out.1 (by simp) HB1.out.size⟩⟩
  by_cases h39 : op = 39
  · subst h39
    have hbe : behind ⟨39, a⟩ ls = if ls.length = 0 ∨ ls.getD (ls.length - 1) 0 ≠ a then ([], 90) else (ls.take (ls.length - 1), 0) := rfl
    obtain ⟨n, hn⟩ : ∃ n, ls.length = n := ⟨_, rfl⟩
    cases n with
    | zero =>
      rw [if_pos (.inl hn)] at hbe
      have HE := Lib.hid hbe
      have hn1 : ((ls.length : Int) == 0) = true := by rw [hn]; rfl
      have hn2 : (ls.length : Int) = 0 := by rw [hn]; rfl
      clear hbe h38
      go_wp2_with fail
      go_quiet (fail)
      go_wp2
      go_ret2
      exact BAD.out _ (bthen HB1.out (pw_below_drewN (Below.refl _ _) _)) HE.out
    | succ n =>
      have hC1 := HO1.out.reads
      obtain ⟨A', c', hv, _, hC1⟩ := hC1
      cases hv
      have CC := cells_int hC1
      rw [hn] at CC
      obtain ⟨ad, rfl, _⟩ := CC.2 (by omega)
      have l0 := CC.one (j := n) (by omega) (v := .int .i64 (ls.getD n 0)) rfl
      have hn1 : ((ls.length : Int) == 0) = false := by rw [hn, beq_eq_false_iff_ne]; omega
      have hn2 : ¬ (ls.length : Int) = 0 := by rw [hn]; omega
      have hnn : (ls.length : Int) - 1 = (n : Int) := by rw [hn]; omega
      have HN := Lib.hid hn
      have hmax := CC.1
      generalize hy : ls.getD n 0 = y at l0
      have HY := Lib.hid hy
      clear hC1 CC hy h38 hn
      by_cases hya : y = a
      · rw [if_neg (by rw [HN.out]; intro h; rcases h with h | h; exact absurd h (by omega); exact h (by rw [← hya, ← HY.out]; rfl))] at hbe
        have HE := Lib.hid hbe
        have hq : (y != a) = false := by rw [hya]; simp
        clear hbe hya
        go_wp2_with fail
        go_quiet (fail)
        go_wp2
        go_ret2
        rw [HE.out]
        have hd := pw_below_drewN (Below.refl w1.heap.size w1) nq
        have h1 := (HO1.out.below hd).cut (m := n) rfl (by have := HN.out; omega)
        exact ⟨_, rfl, bthen HB1.out hd, fun _ => ⟨by rw [show ls.length - 1 = n by have := HN.out; omega]; exact h1, .inl rfl⟩⟩
      · rw [if_pos (.inr (by rw [show ls.length - 1 = n by have := HN.out; omega, HY.out]; exact hya))] at hbe
        have HE := Lib.hid hbe
        have hq : (y != a) = true := by rw [bne_iff_ne]; exact hya
        clear hbe hya
        go_wp2_with fail
        go_quiet (fail)
        go_wp2
        go_ret2
        exact BAD.out _ (bthen HB1.out (pw_below_drewN (Below.refl _ _) _)) HE.out
  have e38 : (op == 38) = false := by rw [beq_eq_false_iff_ne]; exact h38
  have e39 : (op == 39) = false := by rw [beq_eq_false_iff_ne]; exact h39
  by_cases h5 : op = 5
  · subst h5
    have hbe : behind ⟨5, a⟩ ls = if a ∈ ls then ([], 90) else (ls, 0) := rfl
    clear h38 h39
    cases q with
    | true =>
      rw [if_pos (of_decide_eq_true HQ.out)] at hbe
      have HE := Lib.hid hbe
      clear hbe
      go_wp2
      go_ret2
      exact BAD.out _ HB1.out HE.out
    | false =>
      rw [if_neg (of_decide_eq_false HQ.out)] at hbe
      have HE := Lib.hid hbe
      clear hbe
      go_wp2
      go_ret2
      exact SAME.out HE.out
  have e5 : (op == 5) = false := by rw [beq_eq_false_iff_ne]; exact h5
  by_cases hr : op = 33 ∨ op = 34
  · have hbe : behind ⟨op, a⟩ ls = if 0 < ls.length then ([], 90) else (ls, 0) := by rcases hr with rfl | rfl <;> rfl
    by_cases hp : 0 < ls.length
    · rw [if_pos hp] at hbe
      have HE := Lib.hid hbe
      have hp1 : (ls.length : Int) > 0 := by omega
      clear hbe hp
      rcases hr with rfl | rfl
      all_goals
        go_wp2
        go_ret2
        exact BAD.out _ HB1.out HE.out
    · rw [if_neg hp] at hbe
      have HE := Lib.hid hbe
      have hp1 : ¬ (ls.length : Int) > 0 := by omega
      clear hbe hp
      rcases hr with rfl | rfl
      all_goals
        go_wp2
        go_ret2
        exact SAME.out HE.out
  · have hbe : behind ⟨op, a⟩ ls = (ls, 0) := by
      unfold behind
      simp only [h38, h39, h5, hr, if_false]
    have HE := Lib.hid hbe
    have e33 : (op == 33) = false := by rw [beq_eq_false_iff_ne]; exact fun h => hr (.inl h)
    have e34 : (op == 34) = false := by rw [beq_eq_false_iff_ne]; exact fun h => hr (.inr h)
    clear hbe hr h38 h39 h5
    go_wp2
    go_ret2
    exact SAME.out HE.out


/-- What comes leaves. -/
def ComePost (wB w : World) (kb lb eb : Nat) (tv : Value) (m : Mt) (L : List St) (r : Int × Wk) (e : Ending) (w' : World) : Prop :=
  e = .returned (.int .i64 r.1) ∧ ∃ tv', LkAt wB w' kb lb eb tv' m L r.2 ∧ Stay wB.heap.size w w' tv tv' ∧ Else w w'
theorem add_row (lb i k : Nat) : (⟨((⟨lb, 0, none⟩ : Addr).add (i * 4)).block, ((⟨lb, 0, none⟩ : Addr).add (i * 4)).off + k, none⟩ : Addr) = ⟨lb, i * 4 + k, none⟩ := at4_lit lb i k
set_option maxHeartbeats 1000000 in
set_option maxRecDepth 10000 in
theorem comes_any {wB w : World} {kb lb eb : Nat} {tv : Value} {m : Mt} {L : List St} {s : Wk} (H : LkAt wB w kb lb eb tv m L s) (pc : Nat) (hpc : pc < L.length) (v : Value) (ls : List Int) (hv : OwnI wB.heap.size w v ls) (hl : ls.length ≤ 6) (ht : s.todo.length ≤ 900000) (hL : L.length ≤ 100000) :
    Calls Tryz.prog 38 #[.pointer (some ⟨kb, 0, none⟩), .int .i64 pc, v] w (ComePost wB w kb lb eb tv m L (lcomes s pc ls)) := by
  obtain ⟨k8, k9, k10, kf⟩ := H.reads
  obtain ⟨e0, ef⟩ := H.met hpc
  obtain ⟨A, c, rfl, hc, hC⟩ := hv.reads
  have HH := Aside0.mk H
  have HV := Aside0.mk hv
  have HLE := Lib.hid hl
  have HT := Lib.hid ht
  have hpl : (pc : Int) < (L.length : Int) := by omega
  have hp0 : (0 : Int) ≤ (pc : Int) := by omega
  obtain ⟨ae, hae⟩ : ∃ ae : Addr, ae = ⟨eb, 0, none⟩ := ⟨_, rfl⟩
  have e1 : w.cell? (ae.add pc) = some (.bool (s.met.getD pc false)) := by rw [hae, add_zero_off]; exact e0
  have ef1 : w.frozen? (ae.add pc) = false := by rw [hae, add_zero_off]; exact ef pc
  rw [← hae] at k9
  have HAE := Lib.hid hae
  have HPC := Lib.hid hpc
  cases hm : s.met.getD pc false with
  | true =>
    obtain ⟨v0, r0, o0, n0, _⟩ := H.row hpc
    obtain ⟨A0, c0, rfl, _, hC0⟩ := o0.reads
    have EQ := Aside0.mk (equalI_any (s.locks.getD pc []) ls A0 A c0 c w hC0 hC)
    obtain ⟨al, hal⟩ : ∃ al : Addr, al = ⟨lb, 0, none⟩ := ⟨_, rfl⟩
    have r1 : w.cell? ⟨(al.add (pc * 4)).block, (al.add (pc * 4)).off + 3, none⟩ = some (.slice A0 (s.locks.getD pc []).length c0) := by rw [hal, add_row]; exact r0
    rw [← hal] at k8
    have hres : lcomes s pc ls = (if s.locks.getD pc [] = ls then 0 else 90, s) := by unfold lcomes; rw [hm]; rfl
    rw [hm] at e1
    have HR := Lib.hid hres
    obtain ⟨k, hk⟩ : ∃ k, (s.locks.getD pc []) = k := ⟨_, rfl⟩
    rw [hk] at HR EQ r1
    clear H hv hl ht hae hal k10 kf e0 ef hC r0 o0 n0 hC0 hres hm hk hpc
    go_enter Tryz.func38, Tryz.ntmps38
    go_wp2_with fail
    refine EQ.out.mono ?_
    rintro e w1 ⟨rfl, hb1⟩
    have HB1 := Aside0.mk hb1
    clear hb1 k8 k9 e1 ef1 r1
    by_cases hkl : k = ls
    · rw [decide_eq_true hkl]
      go_wp2
      go_ret
      exact ⟨by rw [HR.out, if_pos hkl]; rfl, tv, by rw [HR.out]; exact HH.out.below HB1.out, Stay.below HB1.out, Else.below HB1.out⟩
    · rw [decide_eq_false hkl]
      go_wp2
      go_ret
      exact ⟨by rw [HR.out, if_neg hkl]; rfl, tv, by rw [HR.out]; exact HH.out.below HB1.out, Stay.below HB1.out, Else.below HB1.out⟩
  | false =>
    have hres : lcomes s pc ls = (0, ⟨s.locks.set pc ls, s.met.set pc true, s.todo ++ [(pc : Int)]⟩) := by unfold lcomes; rw [hm]; rfl
    rw [hres]
    rw [hm] at e1
    obtain ⟨W1, hW1⟩ : ∃ W1, w.setCell (ae.add pc) (.bool true) = W1 := ⟨_, rfl⟩
    have H1 : LkAt wB W1 kb lb eb tv m L ⟨s.locks, s.met.set pc true, s.todo⟩ := by
      rw [← hW1, hae, add_zero_off]
      exact H.meet pc
    have S1 : Stay wB.heap.size w W1 tv tv := by
      rw [← hW1, hae, add_zero_off]
      exact Stay.set H.ecell (by decide)
    have X1 : Else w W1 := by
      rw [← hW1, hae, add_zero_off]
      exact Else.set H.ecell (.inr (.inr (.inl rfl)))
    have V1 : OwnI wB.heap.size W1 (.slice A ls.length c) ls := by
      rw [← hW1, hae, add_zero_off]
      exact hv.set H.ecell (by decide)
    have d1 := below_drew (Below.refl W1.heap.size W1)
    have CL := Aside0.mk (cloneI_any (.slice A ls.length c) ls W1.drew (V1.below d1) (by omega))
    have H1d := H1.below d1
    have G1 : ∀ w2, Below W1.drew.heap.size W1.drew w2 → LkAt wB w2 kb lb eb tv m L ⟨s.locks, s.met.set pc true, s.todo⟩ := fun w2 hb => H1d.below hb
    obtain ⟨q8, _, _, _⟩ := H1d.reads
    have HH1 := Aside0.mk H1
    have HS1 := Aside0.mk S1
    have HX1 := Aside0.mk X1
    have HG1 := Aside0.mk G1
    have HD1 := Aside0.mk d1
    have eK := Aside0.mk (enters_of Tryz.func62 (by kernel_rfl) rfl)
    clear H hv hl ht hae e0 ef hC hm H1 V1 S1 X1 k10 kf G1 H1d d1 hres hpc
    go_enter Tryz.func38, Tryz.ntmps38
    go_upto_region 6 with fail
    clear hW1 k8 k9 e1 ef1
    go_region_law (first
      | (refine call_event eK.out CL.out (by rfl) rfl (by rfl) ?_; rintro e w2 ⟨v2, rfl, ho2, hb2⟩; refine ⟨_, rfl, ?_⟩; have H2 := Aside0.mk (HG1.out w2 hb2); obtain ⟨p8, p9, p10, pf⟩ := H2.out.reads; obtain ⟨_, r0, _, _, rf⟩ := H2.out.row HPC.out; have rf0 := rf (pc * 4 + 3); obtain ⟨A2, c2, rfl⟩ := ho2.slice; have O2 := Aside0.mk ho2; have B2 := Aside0.mk hb2; clear ho2 hb2 rf))
    all_goals
      have hS : OwnI wB.heap.size w2 (.slice A2 ls.length c2) ls := O2.out.low (Nat.le_trans HH1.out.bel.size HD1.out.size)
      have hN : NeRow (.slice A2 ls.length c2) tv := ne_below O2.out (HH1.out.below HD1.out).todo
      have H3 := H2.out.lay HPC.out hS hN
      have S3 : Stay wB.heap.size w2 (w2.setCell ⟨lb, pc * 4 + 3, none⟩ (.slice A2 ls.length c2)) tv tv := by
        obtain ⟨cs, hl, _⟩ := H2.out.lcell
        exact Stay.set hl (by decide)
      have X3 : Else w2 (w2.setCell ⟨lb, pc * 4 + 3, none⟩ (.slice A2 ls.length c2)) := by
        obtain ⟨cs, hl, _⟩ := H2.out.lcell
        exact Else.set hl (.inr (.inl rfl))
      obtain ⟨W3, hW3⟩ : ∃ W3, w2.setCell ⟨lb, pc * 4 + 3, none⟩ (.slice A2 ls.length c2) = W3 := ⟨_, rfl⟩
      rw [hW3] at H3 S3 X3
      obtain ⟨v4, w4, E4, o4, g4, a4⟩ := app_int1 (pc : Int) H3.todo H3.bel.size (by have := HT.out; show s.todo.length ≤ 900000; omega)
      obtain ⟨A4, c4, rfl⟩ := o4.slice
      obtain ⟨H4, S4, X4⟩ := H3.swap g4 o4 a4
      have hl4 : (s.todo ++ [(pc : Int)]).length = s.todo.length + 1 := by simp
      rw [hl4] at H4 S4 X4 E4
      clear hl4
      have hk4 : w4.cell? ⟨kb, 10, none⟩ = some tv := by
        obtain ⟨m0, m1, m2, m3, m4, m5, m6, m7, h5, _⟩ := H3.kcell
        exact Bx.cell ⟨blk_grown h5 g4 (own_ne H3.todo h5 (by decide))⟩ (j := 10) rfl
      have hf4 : w4.frozen? ⟨kb, 10, none⟩ = false := by
        obtain ⟨m0, m1, m2, m3, m4, m5, m6, m7, h5, _⟩ := H3.kcell
        exact blk_frozen (blk_grown h5 g4 (own_ne H3.todo h5 (by decide))) 10
      obtain ⟨t8, t9, t10, tf⟩ := H3.reads
      have HF4 := Aside0.mk H4
      have HS4 := Aside0.mk ((HS1.out.trans (Stay.below HD1.out)).trans ((Stay.below B2.out).trans (S3.trans S4)))
      have HX4 := Aside0.mk ((HX1.out.trans (Else.below HD1.out)).trans ((Else.below B2.out).trans (X3.trans X4)))
      clear hS hN H3 S3 X3 p8 p9 p10 pf r0 rf0 o4 g4 a4 H4 S4 X4 q8
      go_wp2_with (at_builtin; refine wpList_append_E rfl _ _ _ rfl rfl rfl E4 ?_)
      go_wp2
      go_ret
      exact ⟨rfl, _, HF4.out, HS4.out, HX4.out⟩


theorem behind_len {i : In} {ls : List Int} (h : ls.length ≤ 6) : (behind i ls).1.length ≤ 6 := by
  unfold behind
  split
  · split
    · simp
    · simp; omega
  · split
    · split
      · simp
      · simp; omega
    · split
      · split
        · simp
        · exact h
      · split
        · split
          · simp
          · exact h
        · exact h
theorem lcomes_todo (s : Wk) (pc : Nat) (ls : List Int) : (lcomes s pc ls).2.todo.length ≤ s.todo.length + 1 := by
  unfold lcomes
  split
  · exact Nat.le_succ _
  · simp
theorem lgoes_eq (m : Mt) (s : Wk) (pc : Nat) (i : In) (hi : m.code[pc]? = some i) (b : List Int × Int) (hb : behind i (s.locks.getD pc []) = b) : lgoes m s pc =
    if b.2 ≠ 0 then (b.2, s)
    else
      let a := if jumps i.op then lcomes s i.a.toNat b.1 else (0, s)
      if a.1 ≠ 0 then a else if stops i.op then a else lcomes a.2 (pc + 1) b.1 := by
  unfold lgoes
  rw [List.getD_eq_getElem?_getD, hi]
  simp only [Option.getD_some, hb]
set_option maxHeartbeats 1000000 in
set_option maxRecDepth 10000 in
theorem lgoes_any {wB w : World} {kb lb eb : Nat} {tv : Value} {m : Mt} {L : List St} {s : Wk} (H : LkAt wB w kb lb eb tv m L s) {c : Cl} {n : Nat} (hM : MtOk c m n) (hlen : L.length = m.code.length) (hL : L.length ≤ 100000) (h6 : ∀ i, (s.locks.getD i []).length ≤ 6) (ht : s.todo.length ≤ 800000) (pc : Nat) (hpc : pc < L.length) :
    Calls Tryz.prog 39 #[.pointer (some ⟨kb, 0, none⟩), .int .i64 pc] w (ComePost wB w kb lb eb tv m L (lgoes m s pc)) := by
  have hpcm : pc < m.code.length := by omega
  obtain ⟨i, hi⟩ : ∃ i, m.code[pc]? = some i := ⟨_, List.getElem?_eq_getElem hpcm⟩
  obtain ⟨i1, i2, i3, i4⟩ := hM.ins pc i hi
  obtain ⟨Ac, kc, Ah, kh, f6, hC, f7⟩ := H.code
  obtain ⟨k8, _, _, _⟩ := H.reads
  obtain ⟨v0, r0, o0, n0, _⟩ := H.row hpc
  obtain ⟨A0, c0, rfl⟩ := o0.slice
  obtain ⟨b, hb⟩ : ∃ b, behind i (s.locks.getD pc []) = b := ⟨_, rfl⟩
  have HG := Lib.hid (lgoes_eq m s pc i hi b hb)
  have hb6 : b.1.length ≤ 6 := by rw [← hb]; exact behind_len (h6 pc)
  have hl6 := h6 pc
  rw [hM.nh] at f7
  have CC := cells_in hC
  obtain ⟨ac, rfl, _⟩ := CC.2 (by omega)
  have ei : m.code.getD pc default = i := by rw [List.getD_eq_getElem?_getD, hi]; rfl
  have x0 := CC.at0 hpcm (v := .int .i64 i.op) (by rw [ei]; rfl)
  have x1 := CC.at_ (i := 1) hpcm (by decide) (v := .int .i64 i.a) (by rw [ei]; rfl)
  obtain ⟨al, hal⟩ : ∃ al : Addr, al = ⟨lb, 0, none⟩ := ⟨_, rfl⟩
  have r1 : w.cell? ⟨(al.add (pc * 4)).block, (al.add (pc * 4)).off + 3, none⟩ = some (.slice A0 (s.locks.getD pc []).length c0) := by rw [hal, add_row]; exact r0
  rw [← hal] at k8
  obtain ⟨ls, hls⟩ : ∃ ls, s.locks.getD pc [] = ls := ⟨_, rfl⟩
  rw [hls] at r1 o0 hb hl6 n0
  have hpl : (pc : Int) < (L.length : Int) := by omega
  have hpm : (pc : Int) < (m.code.length : Int) := by omega
  have hp0 : (0 : Int) ≤ (pc : Int) := by omega
  have HH := Aside0.mk H
  have HO := Aside0.mk o0
  have HNE := Aside0.mk n0
  have HM := Aside0.mk hM
  have HB := Lib.hid hb
  have HB6 := Lib.hid hb6
  have HI := Aside0.mk (And.intro i2 (And.intro i3 i4))
  have HLEN := Lib.hid hlen
  have HL := Lib.hid hL
  have HT := Lib.hid ht
  have HL6 := Lib.hid hl6
  have HPC := Lib.hid hpc
  have hcm : (m.code.length : Int) ≤ 9223372036854775807 := by have := CC.1; omega
  obtain ⟨w1, hw1⟩ : ∃ w1, w.alloc (.cells #[.int .i64 i.op, .int .i64 i.a] 29) = w1 := ⟨_, rfl⟩
  have hb1 : Below w.heap.size w w1 := by rw [← hw1]; exact balloc _ _
  have hbi : w1.heap[w.heap.size]? = some (.cells #[.int .i64 i.op, .int .i64 i.a] 29 (0, 0)) := by rw [← hw1]; exact blk_new _ _
  have H1 := Aside0.mk (H.below hb1)
  have hBS : wB.heap.size ≤ w1.heap.size := Nat.le_trans H.bel.size hb1.size
  have HB1 := Aside0.mk hb1
  have BE := Aside0.mk (behind_any i.op i.a ls (.slice A0 ls.length c0) w1 (o0.below hb1) hBS hl6)
  have HBI := Aside0.mk hbi
  obtain ⟨y0, y1⟩ := Bx.two ⟨hbi⟩
  have k8b := pw_cell_below hb1 k8
  have r1b := pw_cell_below hb1 r1
  clear H hM hi i1 i2 i3 i4 hC CC r0 o0 n0 hb hb6 hl6 ei hal hls hlen hL h6 ht hb1 hbi hBS hpc hpcm
  go_enter Tryz.func39, Tryz.ntmps39
  go_wp2_with fail
  refine BE.out.mono ?_
  rintro e w2 ⟨v1, rfl, hb2, hok⟩
  rw [show (⟨i.op, i.a⟩ : In) = i from rfl, HB.out] at hok ⊢
  have H2 := Aside0.mk (H1.out.below hb2)
  have BI2 := Aside0.mk (blk_below HBI.out hb2)
  have S2 : Aside0 (Stay wB.heap.size w w2 tv tv) := ⟨(Stay.below HB1.out).trans (Stay.below hb2)⟩
  have E2 : Aside0 (Else w w2) := ⟨(Else.below HB1.out).trans (Else.below hb2)⟩
  have HOK := Aside0.mk hok
  have HB2 := Lib.hid (Nat.le_trans H1.out.bel.size hb2.size)
  clear hok hb2 y0 y1 k8b r1b x0 x1 hw1 k8 r1 f6 f7 BE
  by_cases hbe : b.2 = 0
  · have hbe1 : (b.2 == 0) = true := by rw [hbe]; rfl
    obtain ⟨o1, hat⟩ := HOK.out hbe
    have n1 : NeRow v1 tv := ne_append HNE.out (by
      rcases hat with hat | ⟨k, e1, e2⟩
      · exact .inl hat
      · exact .inr ⟨k, e1, Nat.le_trans HB1.out.size e2⟩) HH.out.todo
    obtain ⟨A1, c1, rfl⟩ := o1.slice
    have O1 := Aside0.mk o1
    have N1 := Aside0.mk n1
    have HBE := Lib.hid hbe
    have HG2 : Hid (lgoes m s pc = (let a := if jumps i.op then lcomes s i.a.toNat b.1 else (0, s)
      if a.1 ≠ 0 then a else if stops i.op then a else lcomes a.2 (pc + 1) b.1)) := Lib.hid (by rw [HG.out, if_neg (by rw [HBE.out]; decide)])
    obtain ⟨bi0, bi1⟩ := Bx.two ⟨BI2.out⟩
    obtain ⟨q, hq⟩ : ∃ q, jumps i.op = q := ⟨_, rfl⟩
    clear o1 n1 hat hbe
    have JI := Aside0.mk (jumps_is hq w2)
    have HQ := Lib.hid hq
    clear hq
    go_wp2_with fail
    refine JI.out.mono ?_
    rintro e w' ⟨rfl, rfl⟩
    cases q with
    | true =>
      obtain ⟨ia0, ia1⟩ := HI.out.2.1 HQ.out
      obtain ⟨k, hka⟩ := Int.eq_ofNat_of_zero_le ia0
      have hkl : k < L.length := by have := HLEN.out; omega
      have JC := Aside0.mk (comes_any H2.out k hkl (.slice A1 b.1.length c1) b.1 O1.out HB6.out (by have := HT.out; omega) HL.out)
      have HKA := Lib.hid hka
      rw [hka] at bi1
      clear ia0 ia1 hka hkl
      go_wp2_with fail
      refine JC.out.mono ?_
      rintro e W6 ⟨rfl, tv6, h6, st6, el6⟩
      have BI6 := Aside0.mk (el6 _ _ _ BI2.out (by decide) (by decide) (by decide) (by decide))
      have O6 := Aside0.mk (st6 _ _ O1.out N1.out)
      have S6 := Aside0.mk (S2.out.trans st6)
      have E6 := Aside0.mk (E2.out.trans el6)
      obtain ⟨a, ha⟩ : ∃ a, lcomes s k b.1 = a := ⟨_, rfl⟩
      have htd : a.2.todo.length ≤ 900000 := by
        have h1 := lcomes_todo s k b.1
        have h2 := HT.out
        rw [ha] at h1
        omega
      rw [ha] at h6 ⊢
      have H6 := Aside0.mk h6
      have HA := Lib.hid ha
      have HTD := Lib.hid htd
      clear h6 st6 el6 ha htd bi0 bi1
      by_cases hae : a.1 = 0
      · have hae1 : (a.1 == 0) = true := by rw [hae]; rfl
        have HAE := Lib.hid hae
        have HG6 : Hid (lgoes m s pc = if stops i.op then (0, a.2) else lcomes a.2 (pc + 1) b.1) := Lib.hid (by
          have e1 : i.a.toNat = k := by rw [HKA.out]; rfl
          have e2 : a = (0, a.2) := by rw [← hae]
          rw [HG2.out]
          simp only [HQ.out, e1, HA.out, if_true, hae, ne_eq, not_true_eq_false, if_false]
          conv => lhs; rw [e2])
        clear hae
        obtain ⟨bi0, bi1⟩ := Bx.two ⟨BI6.out⟩
        obtain ⟨q2, hq2⟩ : ∃ q, stops i.op = q := ⟨_, rfl⟩
        have HQS := Lib.hid hq2
        clear hq2
        go_wp2_with fail
        refine (stops_is HQS W6).mono ?_
        rintro e w' ⟨rfl, rfl⟩
        cases q2 with
        | true =>
          have HR2 : Hid (lgoes m s pc = (0, a.2)) := Lib.hid (by rw [HG6.out, if_pos HQS.out])
          obtain ⟨_, _, Ah, kh, _, _, f7⟩ := H6.out.code
          rw [HM.out.nh] at f7
          go_wp2_with fail
          go_loopw [8, 64] (fun s8 s64 wr => s8 = .int .i64 a.1 ∧ s64 = .int .i64 0 ∧ wr = W6) (fun _ _ _ => 0)
          case atStart => exact ⟨rfl, rfl, rfl⟩
          case round =>
            obtain ⟨rfl, rfl, rfl⟩ := hrel
            go_wp2
            go_ret
            rw [HR2.out]
            exact ⟨congrArg (fun z => Ending.returned (.int .i64 z)) HAE.out, _, H6.out, S6.out, E6.out⟩
        | false =>
          have hpc1 := HI.out.2.2 HQS.out
          have hpl1 : pc + 1 < L.length := by have := HLEN.out; omega
          have JC := comes_any H6.out (pc + 1) hpl1 (.slice A1 b.1.length c1) b.1 O6.out.1 HB6.out HTD.out HL.out
          rw [show ((pc + 1 : Nat) : Int) = (pc : Int) + 1 by omega] at JC
          have JC := Aside0.mk JC
          have hp63 : (pc : Int) + 1 ≤ 9223372036854775807 := by have := HL.out; omega
          have HR2 : Hid (lgoes m s pc = lcomes a.2 (pc + 1) b.1) := Lib.hid (by rw [HG6.out, if_neg (by rw [HQS.out]; decide)])
          have HST := Aside0.mk S6.out
          have HEL := Aside0.mk E6.out
          clear hpc1 hpl1
          go_wp2_with fail
          refine JC.out.mono ?_
          rintro e W9 ⟨rfl, tv9, h9, st9, el9⟩
          have H9 := Aside0.mk h9
          have S9 := Aside0.mk (HST.out.trans st9)
          have E9 := Aside0.mk (HEL.out.trans el9)
          clear h9 st9 el9 bi0 bi1
          obtain ⟨_, _, Ah, kh, _, _, f7⟩ := H9.out.code
          rw [HM.out.nh] at f7
          go_wp2_with fail
          go_loopw [8, 64] (fun s8 s64 wr => s8 = .int .i64 (lcomes a.2 (pc + 1) b.1).1 ∧ s64 = .int .i64 0 ∧ wr = W9) (fun _ _ _ => 0)
          case atStart => exact ⟨rfl, rfl, rfl⟩
          case round =>
            obtain ⟨rfl, rfl, rfl⟩ := hrel
            go_wp2
            go_ret
            rw [HR2.out]
            exact ⟨rfl, _, H9.out, S9.out, E9.out⟩
      · have hae1 : (a.1 == 0) = false := by rw [beq_eq_false_iff_ne]; exact hae
        have HR2 : Hid (lgoes m s pc = a) := Lib.hid (by
          have e1 : i.a.toNat = k := by rw [HKA.out]; rfl
          rw [HG2.out]
          simp only [HQ.out, e1, HA.out, if_true]
          rw [if_pos hae])
        clear hae
        obtain ⟨_, _, Ah, kh, _, _, f7⟩ := H6.out.code
        rw [HM.out.nh] at f7
        go_wp2_with fail
        go_loopw [8, 64] (fun s8 s64 wr => s8 = .int .i64 a.1 ∧ s64 = .int .i64 0 ∧ wr = W6) (fun _ _ _ => 0)
        case atStart => exact ⟨rfl, rfl, rfl⟩
        case round =>
          obtain ⟨rfl, rfl, rfl⟩ := hrel
          go_wp2
          go_ret
          rw [HR2.out]
          exact ⟨rfl, _, H6.out, S6.out, E6.out⟩
    | false =>
      have HG6 : Hid (lgoes m s pc = if stops i.op then (0, s) else lcomes s (pc + 1) b.1) := Lib.hid (by
        rw [HG2.out]
        simp only [HQ.out, Bool.false_eq_true, if_false, ne_eq, not_true_eq_false])
      clear bi0 bi1
      obtain ⟨bi0, bi1⟩ := Bx.two ⟨BI2.out⟩
      obtain ⟨q2, hq2⟩ : ∃ q, stops i.op = q := ⟨_, rfl⟩
      have HQS := Lib.hid hq2
      clear hq2
      go_wp2_with fail
      refine (stops_is HQS w2).mono ?_
      rintro e w' ⟨rfl, rfl⟩
      cases q2 with
      | true =>
        have HR2 : Hid (lgoes m s pc = (0, s)) := Lib.hid (by rw [HG6.out, if_pos HQS.out])
        obtain ⟨_, _, Ah, kh, _, _, f7⟩ := H2.out.code
        rw [HM.out.nh] at f7
        go_wp2_with fail
        go_loopw [8, 64] (fun s8 s64 wr => s8 = .int .i64 b.2 ∧ s64 = .int .i64 0 ∧ wr = w2) (fun _ _ _ => 0)
        case atStart => exact ⟨rfl, rfl, rfl⟩
        case round =>
          obtain ⟨rfl, rfl, rfl⟩ := hrel
          go_wp2
          go_ret
          rw [HR2.out]
          exact ⟨congrArg (fun z => Ending.returned (.int .i64 z)) HBE.out, _, H2.out, S2.out, E2.out⟩
      | false =>
        have hpc1 := HI.out.2.2 HQS.out
        have hpl1 : pc + 1 < L.length := by have := HLEN.out; omega
        have JC := comes_any H2.out (pc + 1) hpl1 (.slice A1 b.1.length c1) b.1 O1.out HB6.out (by have := HT.out; omega) HL.out
        rw [show ((pc + 1 : Nat) : Int) = (pc : Int) + 1 by omega] at JC
        have JC := Aside0.mk JC
        have hp63 : (pc : Int) + 1 ≤ 9223372036854775807 := by have := HL.out; omega
        have HR2 : Hid (lgoes m s pc = lcomes s (pc + 1) b.1) := Lib.hid (by rw [HG6.out, if_neg (by rw [HQS.out]; decide)])
        have HST := Aside0.mk S2.out
        have HEL := Aside0.mk E2.out
        clear hpc1 hpl1
        go_wp2_with fail
        refine JC.out.mono ?_
        rintro e W9 ⟨rfl, tv9, h9, st9, el9⟩
        have H9 := Aside0.mk h9
        have S9 := Aside0.mk (HST.out.trans st9)
        have E9 := Aside0.mk (HEL.out.trans el9)
        clear h9 st9 el9 bi0 bi1
        obtain ⟨_, _, Ah, kh, _, _, f7⟩ := H9.out.code
        rw [HM.out.nh] at f7
        go_wp2_with fail
        go_loopw [8, 64] (fun s8 s64 wr => s8 = .int .i64 (lcomes s (pc + 1) b.1).1 ∧ s64 = .int .i64 0 ∧ wr = W9) (fun _ _ _ => 0)
        case atStart => exact ⟨rfl, rfl, rfl⟩
        case round =>
          obtain ⟨rfl, rfl, rfl⟩ := hrel
          go_wp2
          go_ret
          rw [HR2.out]
          exact ⟨rfl, _, H9.out, S9.out, E9.out⟩
  · have hbe1 : (b.2 == 0) = false := by rw [beq_eq_false_iff_ne]; exact hbe
    have HR2 : Hid (lgoes m s pc = (b.2, s)) := Lib.hid (by rw [HG.out, if_pos hbe])
    clear hbe
    obtain ⟨_, _, Ah, kh, _, _, f7⟩ := H2.out.code
    rw [HM.out.nh] at f7
    go_wp2_with fail
    go_loopw [8, 64] (fun s8 s64 wr => s8 = .int .i64 b.2 ∧ s64 = .int .i64 0 ∧ wr = w2) (fun _ _ _ => 0)
    case atStart => exact ⟨rfl, rfl, rfl⟩
    case round =>
      obtain ⟨rfl, rfl, rfl⟩ := hrel
      go_wp2
      go_ret
      rw [HR2.out]
      exact ⟨rfl, _, H2.out, S2.out, E2.out⟩
end Go.Proofs.YtpdjkclacbgneaaGreat
