/- Rows of instructions of one's own; a Main of some code; what the walk asks of a program, by evaluation. -/
import Derived.Test.YtpdjkclacbgneaaVAlZ
set_option linter.unusedVariables false
set_option linter.unusedSimpArgs false
namespace Go.Proofs.Ytpdjkclacbgneaa
open Go.RowKit Go.Shelf Go.Proofs.YtpdjkclacbgneaaW.PrintWords Go.Proofs.Ytpdjkclacbgneaa.Pl

def fli (l : List In) : List Value := l.flatMap inCs
def OwnIn (B : Nat) (w : World) (v : Value) (l : List In) : Prop := w.ownsRow B 26 2 v l.length (fli l)
theorem fli_len (l : List In) : (fli l).length = l.length * 2 := by
  induction l with
  | nil => rfl
  | cons a r ih => rw [fli, List.flatMap_cons, List.length_append]; rw [fli] at ih; rw [ih]; simp [inCs]; omega
theorem fli_app (l m : List In) : fli (l ++ m) = fli l ++ fli m := by simp [fli]
theorem OwnIn.below {B : Nat} {w w1 : World} {v : Value} {l : List In} (h : OwnIn B w v l) (hb : Below w.heap.size w w1) : OwnIn B w1 v l := pw_own_below h hb
theorem fli_at : ∀ (l : List In) (j : Nat) (t : In), l[j]? = some t → ((fli l).drop (j * 2)).take 2 = inCs t
  | [], j, t, h => by simp at h
  | a :: r, 0, t, h => by
    rw [List.getElem?_cons_zero] at h
    cases h
    simp [fli, inCs]
  | a :: r, j + 1, t, h => by
    rw [List.getElem?_cons_succ] at h
    have := fli_at r j t h
    rw [fli] at this ⊢
    rw [List.flatMap_cons, show (j + 1) * 2 = (inCs a).length + j * 2 by simp [inCs]; omega, List.drop_length_add_append]
    exact this
theorem inK_cs (w : World) (t : In) : inK.K w t (inCs t) := ⟨[.int .i64 t.op], [.int .i64 t.a], rfl, rfl, rfl⟩
theorem OwnIn.reads {B : Nat} {w : World} {v : Value} {l : List In} (h : OwnIn B w v l) : ∃ A c, v = .slice A l.length c ∧ l.length ≤ c ∧ inK.C w A l.length l := by
  obtain ⟨A, c, hv, hr⟩ := own_reads_row (R := inK.K w) (ps := l) h ⟨fli_len l, fun j p hj => by rw [fli_at l j p hj]; exact inK_cs w p⟩ rfl
  refine ⟨A, c, hv, ?_, hr⟩
  subst hv
  exact own_le h
theorem inInfo : (Try.prog.info? 26).map (fun i => (i.zero, i.size, i.bytes)) = some (some (.agg #[.int .i64 0, .int .i64 0]), 2, 16) := by kernel_rfl
theorem app_in {B : Nat} {W : World} {v : Value} {l : List In} {t : In} {bx : Nat} (ty : TypeId) (h : OwnIn B W v l) (hB : B ≤ W.heap.size) (hbx : W.heap[bx]? = some (.cells #[.int .i64 t.op, .int .i64 t.a] 26 (0, 0))) (hl : l.length ≤ 1000) :
    ∃ v1 w1, (Builtin.append_ #[24, 24] ty #[v, .slice (some ⟨bx, 0, none⟩) 1 1]).run Try.prog W = .ok v1 w1 ∧ OwnIn B w1 v1 (l ++ [t]) ∧ W.grownBy w1 v.ownBlock := by
  obtain ⟨i0, hi, hzz⟩ := Option.map_eq_some_iff.1 inInfo
  simp only [Prod.mk.injEq] at hzz
  obtain ⟨hz0, hz1, hz2⟩ := hzz
  have hst : Try.prog.underlying 24 = some (.slice 26) := Try.underlying24
  obtain ⟨v1, w1, hrun, h2, hg, _, hat⟩ := run_append_own_at (P := Try.prog) (w := W) B 24 ty 26 i0 (.agg #[.int .i64 0, .int .i64 0]) 2 16 hst hi hz0 hz1 hz2 rfl (by decide) v l.length (fli l) h ⟨bx, 0, none⟩ 1 1 [.int .i64 t.op, .int .i64 t.a] rfl
    (World.news_of_block hbx) (by simp [Value.oneCell']) (by simp only [maxLen]; omega) (by omega) hB
  refine ⟨v1, w1, hrun, ?_, hg⟩
  unfold OwnIn
  rw [fli_app, List.length_append]
  exact h2
/-- A literal of instructions, just laid. -/
theorem OwnIn.lit (W : World) (B : Nat) (l : List In) (hl : l.length ≤ 1000) (hB : B ≤ W.heap.size) : OwnIn B (W.alloc (.cells (fli l).toArray 26)) (.slice (some ⟨W.heap.size, 0, none⟩) l.length l.length) l :=
  ⟨by rw [fli_len], .inr ⟨W.heap.size, l.length, (fli l).toArray, rfl, hB, blk_new _ _, Nat.le_refl _, by unfold maxLen; omega, by simp [fli_len], by simp [← fli_len]⟩⟩
/-- A row of one element. -/
theorem row_one {α : Type} (d : Kd α) {w : World} {g : Nat} {t : TypeId} {x : α} {cs : List Value} (h : w.heap[g]? = some (.cells cs.toArray t (0, 0))) (hk : d.K w x cs) : d.C w (some ⟨g, 0, none⟩) 1 [x] :=
  ⟨rfl, by omega, fun _ => ⟨_, rfl, fun j p hj => by
    have hj0 : j = 0 := by
      have := (List.getElem?_eq_some_iff.1 hj).1
      simpa using this
    subst hj0
    cases hj
    refine ⟨cs, d.K_len hk, hk, fun i u hu => ?_⟩
    rw [add_zero_off]
    exact Bx.cell ⟨h⟩ (by rw [Nat.zero_mul, Nat.zero_add, List.getElem?_toArray]; exact hu)⟩⟩
theorem row_none {α : Type} (d : Kd α) (w : World) : d.C w none 0 [] := ⟨rfl, by omega, fun h => absurd h (Nat.lt_irrefl 0)⟩
/-- A Main of some code, with so many locals, so high a stack. -/
def ofG (loc stk : Int) (code : List In) (pool : List Cn) : List Cl := [⟨nMain, nil, pool, [], [⟨nmain, [], ⟨0, nil⟩, loc, stk, code, []⟩]⟩]
theorem mt_mainG {w : World} {loc stk : Int} {code : List In} {A : Option Addr} {c : Nat} (hc : code.length ≤ c) (h : inK.C w A code.length code) : mtK.K w ⟨nmain, [], ⟨0, nil⟩, loc, stk, code, []⟩ [.string nmain, .slice none 0 0, .int .i64 0, .string nil, .int .i64 loc, .int .i64 stk, .slice A code.length c, .slice none 0 0] :=
  ⟨[.string nmain], _, rfl, rfl, [.slice none 0 0], _, rfl, ⟨none, 0, rfl, Nat.le_refl _, row_none _ w⟩, [.int .i64 0, .string nil], _, rfl, tyK_cs w ⟨0, nil⟩, [.int .i64 loc], _, rfl, rfl, [.int .i64 stk], _, rfl, rfl, [.slice A code.length c], [.slice none 0 0], rfl, ⟨A, c, rfl, hc, h⟩, ⟨none, 0, rfl, Nat.le_refl _, row_none _ w⟩⟩
theorem cl_mainG {w : World} {loc stk : Int} {code : List In} {pool : List Cn} {A P : Option Addr} {c d g : Nat} (hc : code.length ≤ c) (h : inK.C w A code.length code) (hd : pool.length ≤ d) (hp : cnK.C w P pool.length pool)
    (hm : w.heap[g]? = some (.cells #[.string nmain, .slice none 0 0, .int .i64 0, .string nil, .int .i64 loc, .int .i64 stk, .slice A code.length c, .slice none 0 0] 66 (0, 0))) :
    clK.K w ⟨nMain, nil, pool, [], [⟨nmain, [], ⟨0, nil⟩, loc, stk, code, []⟩]⟩ [.string nMain, .string nil, .slice P pool.length d, .slice none 0 0, .slice (some ⟨g, 0, none⟩) 1 1] :=
  ⟨[.string nMain], _, rfl, rfl, [.string nil], _, rfl, rfl, [.slice P pool.length d], _, rfl, ⟨P, d, rfl, hd, hp⟩, [.slice none 0 0], [.slice (some ⟨g, 0, none⟩) 1 1], rfl, ⟨none, 0, rfl, Nat.le_refl _, row_none _ w⟩, ⟨some ⟨g, 0, none⟩, 1, rfl, Nat.le_refl _, row_one mtK hm (mt_mainG hc h)⟩⟩
/-- The cells of a Main, just laid. -/
theorem rows_mainG {w : World} {loc stk : Int} {code : List In} {pool : List Cn} {A P : Option Addr} {c d : Nat} (hc : code.length ≤ c) (h : inK.C w A code.length code) (hd : pool.length ≤ d) (hp : cnK.C w P pool.length pool) :
    clK.C ((w.alloc (.cells #[.string nmain, .slice none 0 0, .int .i64 0, .string nil, .int .i64 loc, .int .i64 stk, .slice A code.length c, .slice none 0 0] 66)).alloc (.cells #[.string nMain, .string nil, .slice P pool.length d, .slice none 0 0, .slice (some ⟨w.heap.size, 0, none⟩) 1 1] 72)) (some ⟨w.heap.size + 1, 0, none⟩) 1 (ofG loc stk code pool) := by
  have hb := bthen (balloc w (.cells #[.string nmain, .slice none 0 0, .int .i64 0, .string nil, .int .i64 loc, .int .i64 stk, .slice A code.length c, .slice none 0 0] 66)) (balloc _ (.cells #[.string nMain, .string nil, .slice P pool.length d, .slice none 0 0, .slice (some ⟨w.heap.size, 0, none⟩) 1 1] 72))
  exact row_one clK (cs := [.string nMain, .string nil, .slice P pool.length d, .slice none 0 0, .slice (some ⟨w.heap.size, 0, none⟩) 1 1]) (blk_second w _ _) (cl_mainG hc (Kd.C_below h hb) hd (Kd.C_below hp hb) (blk_alloc (blk_new w _) _))
theorem link_mainG (loc stk : Int) (code : List In) (pool : List Cn) (B : Option Addr) (w : World) (hC : clK.C w B 1 (ofG loc stk code pool)) (hk : ∀ x, x ∈ pool → x.kind < 3) : Calls Try.prog 18 #[.slice B 1 1] w fun e w' => ∃ pp, e = .returned (.tuple #[.pointer pp, .int .i64 (Pl.link (ofG loc stk code pool)).1]) ∧ ((Pl.link (ofG loc stk code pool)).1 = 0 → ∃ pb, pp = some ⟨pb, 0, none⟩ ∧ ProgIs w' pb (Pl.link (ofG loc stk code pool)).2) ∧ Below w.heap.size w w' := by
  refine (link_any (ofG loc stk code pool) B 1 w hC (by show 1 ≤ 900; decide) ?_).mono ?_
  · rintro ⟨c1, hc1, x, hx, h3⟩
    rw [ofG, List.mem_singleton] at hc1
    subst hc1
    have := hk x hx
    omega
  · rintro e w' ⟨pp, h1, h2, _, h4⟩
    exact ⟨pp, h1, h2, h4⟩
/-- Instructions appended to a row of the call's own: made ahead. -/
theorem app_lit {B : Nat} {W : World} {v : Value} {l : List In} (l2 : List In) (h : OwnIn B W v l) (hB : B ≤ W.heap.size) (hl : l.length + l2.length ≤ 1000) :
    ∃ v1 w1, (Builtin.append_ #[24, 24] 24 #[v, .slice (some ⟨W.heap.size, 0, none⟩) l2.length l2.length]).run Try.prog (W.alloc (.cells (fli l2).toArray 26)) = .ok v1 w1 ∧ OwnIn B w1 v1 (l ++ l2) ∧ Below B W w1 ∧ W.grownBy w1 v.ownBlock := by
  obtain ⟨i0, hi, hzz⟩ := Option.map_eq_some_iff.1 inInfo
  simp only [Prod.mk.injEq] at hzz
  obtain ⟨hz0, hz1, hz2⟩ := hzz
  have hb := balloc W (.cells (fli l2).toArray 26)
  have hst : Try.prog.underlying 24 = some (.slice 26) := Try.underlying24
  obtain ⟨v1, w1, hrun, h2, hg, _, hat⟩ := run_append_own_at (P := Try.prog) (w := W.alloc (.cells (fli l2).toArray 26)) B 24 24 26 i0 (.agg #[.int .i64 0, .int .i64 0]) 2 16 hst hi hz0 hz1 hz2 rfl (by decide) v l.length (fli l) (h.below hb) ⟨W.heap.size, 0, none⟩ l2.length l2.length (fli l2) (fli_len l2)
    (World.news_of_block (blk_new W _)) (fun u hu => by
      simp only [fli, List.mem_flatMap] at hu
      obtain ⟨x, _, hx⟩ := hu
      simp only [inCs, List.mem_cons, List.not_mem_nil, or_false] at hx
      rcases hx with rfl | rfl <;> rfl) (by simp only [maxLen]; omega) (by omega) (Nat.le_trans hB hb.size)
  refine ⟨v1, w1, hrun, ?_, pw_below_grown (hb.mono hB) _ (Nat.le_trans hB hb.size) hg (fun k hk => own_base h k hk), World.grownBy.trans (World.grownBy_alloc W _ _) hg⟩
  unfold OwnIn
  rw [fli_app, List.length_append]
  exact h2
theorem OwnIn.empty (W : World) (B : Nat) (hB : B ≤ W.heap.size) : OwnIn B (W.alloc (.cells #[] 26)) (.slice (some ⟨W.heap.size, 0, none⟩) 0 0) [] :=
  ⟨rfl, .inr ⟨W.heap.size, 0, #[], rfl, hB, blk_new _ _, Nat.le_refl _, by unfold maxLen; omega, rfl, rfl⟩⟩
theorem cnK_c1 (w : World) (c : Cn) : cnK.K w c (cnCs c) := ⟨[.int .i64 c.kind], _, rfl, rfl, [.int .i64 c.int], _, rfl, rfl, [.complex .f64 c.re c.im], _, rfl, rfl, [.string c.cls], [.string c.name], rfl, rfl, rfl⟩
instance okInsDec (c : Cl) (n : Nat) (i : In) : Decidable (okIns c n i) := by unfold okIns; infer_instance
def insOkB (c : Cl) (m : Mt) (j : Nat) (x : In) : Bool := plainOp x.op && decide (okIns c m.locals.toNat x) && decide (jumps x.op = true → 0 ≤ x.a ∧ x.a < m.code.length) && (stops x.op || decide (j + 1 < m.code.length))
def mtOkB (c : Cl) (m : Mt) : Bool := decide (m.handlers = []) && decide (0 ≤ m.locals ∧ m.locals ≤ 900 ∧ m.stack ≤ 800 ∧ 0 < m.code.length ∧ m.code.length ≤ 100000 ∧ m.params.length < m.locals.toNat) && (List.range m.code.length).all fun j => insOkB c m j (m.code.getD j default)
def okB (p : Pg) : Bool := decide (0 < p.h.length) && p.cs.all fun e => e.2.methods.all (mtOkB e.2)
theorem mtOkB_ok {c : Cl} {m : Mt} (h : mtOkB c m = true) : ∃ n, MtOk c m n ∧ m.locals = n ∧ m.params.length < n ∧ m.code.length ≤ 100000 := by
  simp only [mtOkB, Bool.and_eq_true, decide_eq_true_eq, List.all_eq_true, List.mem_range] at h
  obtain ⟨⟨h1, h2, h3, h4, h5, h6, h7⟩, h8⟩ := h
  refine ⟨m.locals.toNat, ⟨h1, by omega, h4, h5, fun i x hx => ?_⟩, by omega, h7, h6⟩
  have hi := (List.getElem?_eq_some_iff.1 hx).1
  have h9 := h8 i hi
  rw [List.getD_eq_getElem?_getD, hx, Option.getD_some] at h9
  simp only [insOkB, Bool.and_eq_true, decide_eq_true_eq, Bool.or_eq_true] at h9
  obtain ⟨⟨⟨a1, a2⟩, a3⟩, a4⟩ := h9
  refine ⟨a1, a2, a3, fun hs => ?_⟩
  rcases a4 with a4 | a4
  · rw [hs] at a4; cases a4
  · exact a4
theorem look_mem {α : Type} (z : α) : ∀ (l : List (Nm × α)) (n : Nm), Pl.look z l n = z ∨ ∃ k, (k, Pl.look z l n) ∈ l
  | [], n => .inl rfl
  | (k, v) :: r, n => by
    rw [Pl.look]
    split
    · exact .inr ⟨k, List.mem_cons_self⟩
    · rcases look_mem z r n with h | ⟨k', h⟩
      · exact .inl h
      · exact .inr ⟨k', List.mem_cons_of_mem _ h⟩
theorem okB_all {p : Pg} (h : okB p = true) : AllOk p ∧ 0 < p.h.length := by
  simp only [okB, Bool.and_eq_true, decide_eq_true_eq, List.all_eq_true] at h
  obtain ⟨h1, h2⟩ := h
  refine ⟨fun c nm m hm => ?_, h1⟩
  have hmem := List.mem_of_find?_eq_some hm
  rcases look_mem (default : Cl) p.cs c with h3 | ⟨k, h3⟩
  · rw [clsOf, h3] at hmem
    exact absurd hmem List.not_mem_nil
  · exact mtOkB_ok (h2 _ h3 m hmem)
end Go.Proofs.Ytpdjkclacbgneaa
