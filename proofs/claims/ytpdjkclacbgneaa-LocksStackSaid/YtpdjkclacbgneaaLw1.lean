/- rows of instructions of one's own; loomlaw8's of, accepted. -/
import Derived.Test.YtpdjkclacbgneaaVAll
set_option linter.unusedVariables false
set_option linter.unusedSimpArgs false
namespace Go.Proofs.Ytpdjkclacbgneaa
open Go.RowKit Go.Shelf Go.Proofs.YtpdjkclacbgneaaW.PrintWords Go.Proofs.Ytpdjkclacbgneaa.Pl

def fli (l : List In) : List Value := l.flatMap inCs
def OwnIn (B : Nat) (w : World) (v : Value) (l : List In) : Prop := w.ownsRow B 26 2 v l.length (fli l)
theorem fli_len (l : List In) : (fli l).length = l.length * 2 := by
  induction l with
  | nil => rfl
  | cons a r ih => rw [fli, List.flatMap_cons, List.length_append]; rw [fli] at ih; rw [ih]; simp [inCs]; omega
theorem fli_app (l m : List In) : fli (l ++ m) = fli l ++ fli m := by simp [fli]
theorem OwnIn.below {B : Nat} {w w1 : World} {v : Value} {l : List In} (h : OwnIn B w v l) (hb : Below w.heap.size w w1) : OwnIn B w1 v l := pw_own_below h hb
theorem fli_at : ∀ (l : List In) (j : Nat) (t : In), l[j]? = some t → ((fli l).drop (j * 2)).take 2 = inCs t
  | [], j, t, h => by simp at h
  | a :: r, 0, t, h => by
    rw [List.getElem?_cons_zero] at h
    cases h
    simp [fli, inCs]
  | a :: r, j + 1, t, h => by
    rw [List.getElem?_cons_succ] at h
    have := fli_at r j t h
    rw [fli] at this ⊢
    rw [List.flatMap_cons, show (j + 1) * 2 = (inCs a).length + j * 2 by simp [inCs]; omega, List.drop_length_add_append]
    exact this
theorem inK_cs (w : World) (t : In) : inK.K w t (inCs t) := ⟨[.int .i64 t.op], [.int .i64 t.a], rfl, rfl, rfl⟩
theorem OwnIn.reads {B : Nat} {w : World} {v : Value} {l : List In} (h : OwnIn B w v l) : ∃ A c, v = .slice A l.length c ∧ l.length ≤ c ∧ inK.C w A l.length l := by
  obtain ⟨A, c, hv, hr⟩ := own_reads_row (R := inK.K w) (ps := l) h ⟨fli_len l, fun j p hj => by rw [fli_at l j p hj]; exact inK_cs w p⟩ rfl
  refine ⟨A, c, hv, ?_, hr⟩
  subst hv
  exact own_le h
theorem inInfo : (Try.prog.info? 26).map (fun i => (i.zero, i.size, i.bytes)) = some (some (.agg #[.int .i64 0, .int .i64 0]), 2, 16) := by kernel_rfl
theorem app_in {B : Nat} {W : World} {v : Value} {l : List In} {t : In} {bx : Nat} (ty : TypeId) (h : OwnIn B W v l) (hB : B ≤ W.heap.size) (hbx : W.heap[bx]? = some (.cells #[.int .i64 t.op, .int .i64 t.a] 26 (0, 0))) (hl : l.length ≤ 1000) :
    ∃ v1 w1, (Builtin.append_ #[24, 24] ty #[v, .slice (some ⟨bx, 0, none⟩) 1 1]).run Try.prog W = .ok v1 w1 ∧ OwnIn B w1 v1 (l ++ [t]) ∧ W.grownBy w1 v.ownBlock := by
  obtain ⟨i0, hi, hzz⟩ := Option.map_eq_some_iff.1 inInfo
  simp only [Prod.mk.injEq] at hzz
  obtain ⟨hz0, hz1, hz2⟩ := hzz
  have hst : Try.prog.underlying 24 = some (.slice 26) := Try.underlying24
  obtain ⟨v1, w1, hrun, h2, hg, _, hat⟩ := run_append_own_at (P := Try.prog) (w := W) B 24 ty 26 i0 (.agg #[.int .i64 0, .int .i64 0]) 2 16 hst hi hz0 hz1 hz2 rfl (by decide) v l.length (fli l) h ⟨bx, 0, none⟩ 1 1 [.int .i64 t.op, .int .i64 t.a] rfl
    (World.news_of_block hbx) (by simp [Value.oneCell']) (by simp only [maxLen]; omega) (by omega) hB
  refine ⟨v1, w1, hrun, ?_, hg⟩
  unfold OwnIn
  rw [fli_app, List.length_append]
  exact h2
/-- A literal of instructions, just laid. -/
theorem OwnIn.lit (W : World) (B : Nat) (l : List In) (hl : l.length ≤ 1000) (hB : B ≤ W.heap.size) : OwnIn B (W.alloc (.cells (fli l).toArray 26)) (.slice (some ⟨W.heap.size, 0, none⟩) l.length l.length) l :=
  ⟨by rw [fli_len], .inr ⟨W.heap.size, l.length, (fli l).toArray, rfl, hB, blk_new _ _, Nat.le_refl _, by unfold maxLen; omega, by simp [fli_len], by simp [← fli_len]⟩⟩
/-- A row of one element. -/
theorem row_one {α : Type} (d : Kd α) {w : World} {g : Nat} {t : TypeId} {x : α} {cs : List Value} (h : w.heap[g]? = some (.cells cs.toArray t (0, 0))) (hk : d.K w x cs) : d.C w (some ⟨g, 0, none⟩) 1 [x] :=
  ⟨rfl, by omega, fun _ => ⟨_, rfl, fun j p hj => by
    have hj0 : j = 0 := by
      have := (List.getElem?_eq_some_iff.1 hj).1
      simpa using this
    subst hj0
    cases hj
    refine ⟨cs, d.K_len hk, hk, fun i u hu => ?_⟩
    rw [add_zero_off]
    exact Bx.cell ⟨h⟩ (by rw [Nat.zero_mul, Nat.zero_add, List.getElem?_toArray]; exact hu)⟩⟩
theorem row_none {α : Type} (d : Kd α) (w : World) : d.C w none 0 [] := ⟨rfl, by omega, fun h => absurd h (Nat.lt_irrefl 0)⟩
/-- A Main of some code. -/
def ofC (code : List In) (pool : List Cn) : List Cl := [⟨nMain, nil, pool, [], [⟨nmain, [], ⟨0, nil⟩, 3, 3, code, []⟩]⟩]
theorem mt_main {w : World} {code : List In} {A : Option Addr} {c : Nat} (hc : code.length ≤ c) (h : inK.C w A code.length code) : mtK.K w ⟨nmain, [], ⟨0, nil⟩, 3, 3, code, []⟩ [.string nmain, .slice none 0 0, .int .i64 0, .string nil, .int .i64 3, .int .i64 3, .slice A code.length c, .slice none 0 0] :=
  ⟨[.string nmain], _, rfl, rfl, [.slice none 0 0], _, rfl, ⟨none, 0, rfl, Nat.le_refl _, row_none _ w⟩, [.int .i64 0, .string nil], _, rfl, tyK_cs w ⟨0, nil⟩, [.int .i64 3], _, rfl, rfl, [.int .i64 3], _, rfl, rfl, [.slice A code.length c], [.slice none 0 0], rfl, ⟨A, c, rfl, hc, h⟩, ⟨none, 0, rfl, Nat.le_refl _, row_none _ w⟩⟩
theorem cl_main {w : World} {code : List In} {pool : List Cn} {A P : Option Addr} {c d g : Nat} (hc : code.length ≤ c) (h : inK.C w A code.length code) (hd : pool.length ≤ d) (hp : cnK.C w P pool.length pool)
    (hm : w.heap[g]? = some (.cells #[.string nmain, .slice none 0 0, .int .i64 0, .string nil, .int .i64 3, .int .i64 3, .slice A code.length c, .slice none 0 0] 66 (0, 0))) :
    clK.K w ⟨nMain, nil, pool, [], [⟨nmain, [], ⟨0, nil⟩, 3, 3, code, []⟩]⟩ [.string nMain, .string nil, .slice P pool.length d, .slice none 0 0, .slice (some ⟨g, 0, none⟩) 1 1] :=
  ⟨[.string nMain], _, rfl, rfl, [.string nil], _, rfl, rfl, [.slice P pool.length d], _, rfl, ⟨P, d, rfl, hd, hp⟩, [.slice none 0 0], [.slice (some ⟨g, 0, none⟩) 1 1], rfl, ⟨none, 0, rfl, Nat.le_refl _, row_none _ w⟩, ⟨some ⟨g, 0, none⟩, 1, rfl, Nat.le_refl _, row_one mtK hm (mt_main hc h)⟩⟩
set_option maxRecDepth 10000 in
set_option maxHeartbeats 400000 in
theorem of_any (code : List In) (pool : List Cn) (A P : Option Addr) (c d : Nat) (w : World) (hc : code.length ≤ c) (h : inK.C w A code.length code) (hd : pool.length ≤ d) (hp : cnK.C w P pool.length pool) :
    Calls Try.prog 25 #[.slice A code.length c, .slice P pool.length d] w fun e w' => ∃ B, e = .returned (.slice B 1 1) ∧ clK.C w' B 1 (ofC code pool) ∧ Below w.heap.size w w' := by
  have hw := fun (w' : World) (hb : Below w.heap.size w w') => Kd.C_below h hb
  have H := Aside0.mk h
  have HP := Aside0.mk hp
  have HC := Lib.hid hc
  have HD := Lib.hid hd
  clear h hp hc hd hw
  go_enter Try.func25, Try.ntmps25
  go_wp2
  go_ret
  have hb1 := balloc w (.cells #[.string nmain, .slice none 0 0, .int .i64 0, .string nil, .int .i64 3, .int .i64 3, .slice A code.length c, .slice none 0 0] 66)
  have hb2 := bthen hb1 (balloc _ (.cells #[.string nMain, .string nil, .slice P pool.length d, .slice none 0 0, .slice (some ⟨w.heap.size, 0, none⟩) 1 1] 72))
  refine ⟨_, rfl, row_one clK (cs := [.string nMain, .string nil, .slice P pool.length d, .slice none 0 0, .slice (some ⟨w.heap.size, 0, none⟩) 1 1]) (blk_second w _ _) (cl_main HC.out (Kd.C_below H.out hb2) HD.out (Kd.C_below HP.out hb2) (blk_alloc (blk_new w _) _)), hb2⟩
/-- What accepted answers; none: more passes than so many. -/
def accB (code : List In) (pool : List Cn) (k : Nat) : Option (Bool × Bool) :=
  if (link (ofC code pool)).1 ≠ 0 then some (false, false) else
  match vall (link (ofC code pool)).2 k with
  | none => none
  | some e => some (e == 0, true)
set_option maxRecDepth 10000 in
set_option maxHeartbeats 400000 in
theorem accepted_any (code : List In) (pool : List Cn) (A P : Option Addr) (c d k : Nat) (q : Bool × Bool) (w : World) (hc : code.length ≤ c) (h : inK.C w A code.length code) (hd : pool.length ≤ d) (hp : cnK.C w P pool.length pool)
    (hk : ∀ x, x ∈ pool → x.kind < 3) (hacc : accB code pool k = some q) (hok : (link (ofC code pool)).1 = 0 → AllOk (link (ofC code pool)).2 ∧ 0 < (link (ofC code pool)).2.h.length) :
    Calls Try.prog 14 #[.slice A code.length c, .slice P pool.length d] w fun e w' => e = .returned (.tuple #[.bool q.1, .bool q.2]) ∧ Below w.heap.size w w' := by
  have OF := Aside0.mk (of_any code pool A P c d w hc h hd hp)
  have HOK := Aside0.mk hok
  have HK := Aside0.mk hk
  have HACC := Aside0.mk hacc
  clear hc h hd hp hok hk hacc
  go_enter Try.func14, Try.ntmps14
  go_wp2_with fail
  refine OF.out.mono ?_
  rintro e1 w1 ⟨B, rfl, hC, hb1⟩
  have LK := Aside0.mk (link_any (ofC code pool) B 1 w1 hC (by show 1 ≤ 900; decide) (by
    rintro ⟨c1, hc1, x, hx, h3⟩
    rw [ofC, List.mem_singleton] at hc1
    subst hc1
    have := HK.out x hx
    omega))
  have B1 := Aside0.mk hb1
  clear hC hb1
  go_wp2_with fail
  refine LK.out.mono ?_
  rintro e2 w2 ⟨pp, rfl, h0, h1, hb2⟩
  have B2 := Aside0.mk (bthen B1.out hb2)
  have hacc := HACC.out
  unfold accB at hacc
  have hok := HOK.out
  obtain ⟨r, hr⟩ : ∃ r, link (ofC code pool) = r := ⟨_, rfl⟩
  rw [hr] at hacc h0 h1 hok ⊢
  clear hb2
  by_cases hz : r.1 = 0
  · rw [if_neg (by rw [hz]; decide)] at hacc
    obtain ⟨pb, rfl, hp⟩ := h0 hz
    obtain ⟨ha, hl⟩ := hok hz
    split at hacc
    · cases hacc
    · rename_i e hv
      simp only [Option.some.injEq] at hacc
      have VA := Aside0.mk (vall_any w2 pb r.2 hp ha hl k e hv)
      have hz1 : (r.1 != 0) = false := by rw [hz]; rfl
      have HQ := Lib.hid hacc
      clear hacc hok h0 h1 hr hz hv ha hl
      go_wp2_with fail
      refine VA.out.mono ?_
      rintro e3 w3 ⟨rfl, hb3⟩
      go_wp2
      go_ret2
      exact ⟨by rw [← HQ.out]; rfl, bthen B2.out hb3⟩
  · have hz1 : (r.1 != 0) = true := by rw [bne_iff_ne]; exact hz
    rw [if_pos hz] at hacc
    simp only [Option.some.injEq] at hacc
    have HQ := Lib.hid hacc
    clear hacc hok h0 h1 hr hz
    go_wp2
    go_ret2
    exact ⟨by rw [← HQ.out]; rfl, B2.out⟩
end Go.Proofs.Ytpdjkclacbgneaa
