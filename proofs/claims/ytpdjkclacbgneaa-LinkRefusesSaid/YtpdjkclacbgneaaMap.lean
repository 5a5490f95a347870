/- Maps from strings, as they lie in memory: what a look-up hands back, what a store leaves. -/
import Derived.Test.YtpdjkclacbgneaaCls7
import Derived.MapKept
set_option linter.unusedVariables false
set_option linter.unusedSimpArgs false
namespace Go.Proofs.Ytpdjkclacbgneaa
open Go.RowKit Go.Shelf Go.Proofs.YtpdjkclacbgneaaW.PrintWords Go.Proofs.Ytpdjkclacbgneaa.Pl

/-- The map's entries, in their order. -/
def ents (es : Array MapEntry) : List (Value × Value) := es.toList.map fun e => (e.key, e.val)
structure MapIs (w : World) (b : Nat) (l : List (Nm × Value)) : Prop where
  out : ∃ es clock, w.heap[b]? = some (.map es clock) ∧ ents es = l.map fun p => (Value.string p.1, p.2)
theorem MapIs.below {w w1 : World} {b : Nat} {l : List (Nm × Value)} (h : MapIs w b l) (hb : Below w.heap.size w w1) : MapIs w1 b l := by
  obtain ⟨es, clock, h1, h2⟩ := h.out
  exact ⟨es, clock, blk_below h1 hb, h2⟩
theorem MapIs.lt {w : World} {b : Nat} {l : List (Nm × Value)} (h : MapIs w b l) : b < w.heap.size := by
  obtain ⟨es, clock, h1, h2⟩ := h.out
  exact blk_lt h1
theorem MapIs.made (w : World) : MapIs (w.alloc (.map #[] 0)) w.heap.size [] := ⟨#[], 0, blk_new _ _, rfl⟩

theorem beq_bytes (s k : ByteArray) : (s == k) = decide (s = k) := by
  obtain ⟨a⟩ := s
  obtain ⟨b⟩ := k
  rw [Bool.eq_iff_iff]
  show (a == b) = true ↔ _
  simp
theorem findNow_str (s : ByteArray) : ∀ (es : List MapEntry) (l : List (Nm × Value)) (i : Nat), (es.map fun e => (e.key, e.val)) = (l.map fun p => (Value.string p.1, p.2)) →
    (Pl.has l s = false ∧ Instr.findNow .string (.string s) es i = some none) ∨
    (Pl.has l s = true ∧ ∃ j v, Instr.findNow .string (.string s) es i = some (some (i + j, v)) ∧ (∀ z, Pl.look z l s = v) ∧ (∃ e, es[j]? = some e ∧ e.key = .string s) ∧ ∀ v', (es.modify j fun e => { e with key := .string s, val := v' }).map (fun e => (e.key, e.val)) = (Pl.put l s v').map fun p => (Value.string p.1, p.2))
  | [], l, i, h => by
    cases l with
    | nil => exact .inl ⟨rfl, rfl⟩
    | cons p r => cases h
  | e :: es, l, i, h => by
    cases l with
    | nil => cases h
    | cons p r =>
      obtain ⟨k, u⟩ := p
      simp only [List.map_cons, List.cons.injEq, Prod.mk.injEq] at h
      obtain ⟨⟨hk, hv⟩, ht⟩ := h
      by_cases hs : k = s
      · refine .inr ⟨by simp [Pl.has, hs], 0, u, ?_, fun (z : Value) => by simp [Pl.look, hs], ⟨e, rfl, by rw [hk, hs]⟩, fun v' => ?_⟩
        · unfold Instr.findNow
          rw [hk]
          simp [Instr.sameNow, hs, hv, beq_bytes]
        · simp [Pl.put, hs, ht]
      · have hs' : ¬ s = k := fun e => hs e.symm
        have hstep : Instr.findNow .string (.string s) (e :: es) i = Instr.findNow .string (.string s) es (i + 1) := by
          rw [Instr.findNow, hk]
          have : (s == k) = false := by rw [beq_bytes]; simp [hs']
          simp [Instr.sameNow, this]
        rcases findNow_str s es r (i + 1) ht with ⟨h1, h2⟩ | ⟨h1, j, v, h2, h3, h4, h5⟩
        · exact .inl ⟨by simp [Pl.has, hs, h1], by rw [hstep, h2]⟩
        · refine .inr ⟨by simp [Pl.has, hs, h1], j + 1, v, by rw [hstep, h2]; congr 3; omega, fun z => by simp [Pl.look, hs, h3 z], h4, fun v' => ?_⟩
          have := h5 v'
          simp only [Pl.put, hs, if_false, List.map_cons]
          rw [← this, ← hk, ← hv]
          simp [List.modify_succ_cons]
section
variable {P : Program} {w : World} {t k e : TypeId} {b : Nat} {l : List (Nm × Value)} {s : ByteArray}
theorem check_str (hk : P.underlying k = some .string) (c : Bool) : (Instr.checkKey c 10000 k (.string s)).run P w = .ok () w := by
  unfold Instr.checkKey
  simp [run_underlying hk]
/-- A look-up. -/
theorem run_look (hm : MapIs w b l) (ht : P.underlying t = some (.map k e)) (hk : P.underlying k = some .string) {z : Value} (hz : (zeroValue e).run P w = .ok z w) (c : Bool) :
    (Instr.lookup t (.map (some b)) (.string s) c).run P w = .ok (if c then .tuple #[Pl.look z l s, .bool (Pl.has l s)] else Pl.look z l s) w := by
  obtain ⟨es, clock, h1, h2⟩ := hm.out
  rcases findNow_str s es.toList l 0 h2 with ⟨g1, g2⟩ | ⟨g1, j, v, g2, g3, _, _⟩
  · have hl : Pl.look z l s = z := by
      clear g2 h2 hm
      induction l with
      | nil => rfl
      | cons p r ih =>
        obtain ⟨k', u⟩ := p
        by_cases hs : k' = s
        · simp [Pl.has, hs] at g1
        · simp only [Pl.has, hs, if_false] at g1
          simp only [Pl.look, hs, if_false]
          exact ih g1
    rw [hl, g1]
    simp [Instr.lookup, run_underlying ht, MapKept.run_getObj_map h1, check_str hk, MapKept.run_findKey hk g2, hz, Result.andThen]
  · rw [g3 z, g1]
    simp [Instr.lookup, run_underlying ht, MapKept.run_getObj_map h1, check_str hk, MapKept.run_findKey hk g2, Result.andThen]
theorem put_new (h : Pl.has l s = false) (v : Value) : Pl.put l s v = l ++ [(s, v)] := by
  induction l with
  | nil => rfl
  | cons p r ih =>
    obtain ⟨k', u⟩ := p
    by_cases hs : k' = s
    · simp [Pl.has, hs] at h
    · simp only [Pl.has, hs, if_false] at h
      simp only [Pl.put, hs, if_false, ih h]
      rfl
theorem grown_set (w : World) (b : Nat) (o : Obj) : w.grownBy { w with heap := w.heap.setIfInBounds b o } (some b) :=
  ⟨rfl, rfl, rfl, by simp, fun i hi hne => by
    have : b ≠ i := fun e => hne (by rw [e])
    simp [Array.getElem?_setIfInBounds, this]⟩
/-- A store. -/
theorem run_put (hm : MapIs w b l) (ht : P.underlying t = some (.map k e)) (hk : P.underlying k = some .string) (v : Value) :
    ∃ w', (Instr.mapUpdate t (.map (some b)) (.string s) v).run P w = .ok () w' ∧ MapIs w' b (Pl.put l s v) ∧ w.grownBy w' (some b) := by
  obtain ⟨es, clock, h1, h2⟩ := hm.out
  have hlt := hm.lt
  rcases findNow_str s es.toList l 0 h2 with ⟨g1, g2⟩ | ⟨g1, j, v0, g2, g3, ⟨e0, g4, g5⟩, g6⟩
  · refine ⟨_, ?_, ⟨es.push { key := .string s, val := v, born := clock }, clock + 1, ?_, ?_⟩, grown_set w b (.map (es.push { key := .string s, val := v, born := clock }) (clock + 1))⟩
    · simp [Instr.mapUpdate, run_underlying ht, MapKept.run_getObj_map h1, check_str hk, MapKept.run_findKey hk g2, MapKept.run_setObj_map _ h1, Result.andThen]
    · simp [hlt]
    · rw [put_new g1]
      simp only [ents, Array.toList_push, List.map_append, List.map_cons, List.map_nil]
      rw [show es.toList.map (fun e => (e.key, e.val)) = l.map (fun p => (Value.string p.1, p.2)) from h2]
  · rw [Nat.zero_add] at g2
    have hj : es[j]? = some e0 := by simpa using g4
    refine ⟨_, ?_, ⟨es.modify j fun e => { e with key := .string s, val := v }, clock, ?_, ?_⟩, grown_set w b (.map (es.modify j fun e => { e with key := .string s, val := v }) clock)⟩
    · have hs : Instr.sameBits 10000 (.string s) (.string s) = true := by simp [Instr.sameBits, beq_bytes]
      simp [Instr.mapUpdate, run_underlying ht, MapKept.run_getObj_map h1, check_str hk, MapKept.run_findKey hk g2, hj, g5, Instr.keyThatStays, hs, MapKept.run_setObj_map _ h1, Result.andThen]
    · simp [hlt]
    · rw [← g6 v]
      simp [ents]
end
end Go.Proofs.Ytpdjkclacbgneaa
