/- What verify.Method's walk asks: the class as it lay before; a fresh flow. -/
import Derived.Test.YtpdjkclacbgneaaVMeth
import Derived.Laws.MakeOwn
set_option linter.unusedVariables false
set_option linter.unusedSimpArgs false
namespace Go.Proofs.Ytpdjkclacbgneaa
open Go.RowKit Go.Shelf Go.Proofs.YtpdjkclacbgneaaW.PrintWords Go.Proofs.Ytpdjkclacbgneaa.Pl

set_option maxRecDepth 10000 in
set_option maxHeartbeats 400000 in
theorem class_at (pb : Nat) (p : Pg) (n : Nm) (w0 w : World) (H : ProgIs w0 pb p) (hb : Below w0.heap.size w0 w) :
    Calls Try.prog 48 #[.pointer (some ⟨pb, 0, none⟩), .string n] w fun e w' => ∃ cs, e = .returned (.tuple #[.agg cs.toArray, .bool (Pl.has p.cs n)]) ∧ clK.K w0 (clsOf p n) cs ∧ Below w.heap.size w w' := by
  have hpb := (H.below hb).lt
  obtain ⟨_, _, b, vs, h3, h4, h5⟩ := H
  obtain ⟨cs, h6, hK⟩ := h5.look n
  have h4 := h4.below hb
  have h3 := pw_cell_below hb h3
  have hlk := run_look (P := Try.prog) (s := n) (h4.below (balloc w (.cells #[.string ⟨#[]⟩, .string ⟨#[]⟩, .slice none 0 0, .slice none 0 0, .slice none 0 0] 72))) Try.underlying91 Try.underlying9 (z := .agg zCl.toArray) (by kernel_rfl) true
  rw [h6, h5.has n] at hlk
  obtain ⟨A0, c0, A1, c1, A2, c2, rfl, _⟩ := clK_open hK
  have HK := Aside0.mk hK
  have hb3 := pw_cell_below (balloc w (.cells #[.string ⟨#[]⟩, .string ⟨#[]⟩, .slice none 0 0, .slice none 0 0, .slice none 0 0] 72)) h3
  clear h3 h4 h5 h6 hK hb
  go_enter Try.func48, Try.ntmps48
  go_wp2
  refine bodyPost_ret (results_ct rfl _ _ _ _ _ _ _ rfl (blk_alloc (blk_new _ _) _) Try.underlying72 rfl (by kernel_rfl)) rfl ?_
  exact ⟨_, rfl, HK.out, bthen (balloc _ _) (balloc _ _)⟩
/-- The cells of a state that nothing has reached. -/
def stZ (n : Nat) : Array Value := madeCells #[.bool false, .slice none 0 0, .slice none 0 0, .slice none 0 0] (n * 4)
theorem stInfo : (Try.prog.info? 82).map (fun i => (i.zero.map Value.cells, i.size, decide (i.bytes ≤ 200), i.zero.isSome)) = some (some #[.bool false, .slice none 0 0, .slice none 0 0, .slice none 0 0], 4, true, true) := by kernel_rfl
theorem run_make_st (n : Nat) (hn : n ≤ 100000) (w : World) : (Instr.makeSlice 78 (.int .i64 (n : Int)) (.int .i64 (n : Int))).run Try.prog w = .ok (.slice (some ⟨w.heap.size, 0, none⟩) n n) (w.alloc (.cells (stZ n) 82)) := by
  obtain ⟨i0, hi, hzz⟩ := Option.map_eq_some_iff.1 stInfo
  simp only [Prod.mk.injEq, decide_eq_true_eq] at hzz
  obtain ⟨hz0, hz1, hz2, hz3⟩ := hzz
  obtain ⟨z, hz⟩ := Option.isSome_iff_exists.1 hz3
  rw [hz] at hz0
  simp only [Option.map_some, Option.some.injEq] at hz0
  have hb : (i0.bytes : Int) * (n : Int) ≤ 281474976710656 := by
    have h1 : i0.bytes * n ≤ 200 * 100000 := Nat.mul_le_mul hz2 hn
    have h2 : ((i0.bytes * n : Nat) : Int) ≤ 281474976710656 := by omega
    rwa [Int.natCast_mul] at h2
  have hr := run_make (P := Try.prog) w 78 82 i0 z Try.underlying78 hi hz .i64 .i64 (n : Int) (n : Int) (by omega) (by omega) hb (by omega)
  simp only [Int.toNat_natCast, hz0, hz1] at hr
  exact hr
theorem stZ_size (n : Nat) : (stZ n).size = n * 4 := size_madeCells _ _
theorem stZ_at {n i k : Nat} (hi : i < n) (hk : k < 4) : (stZ n)[i * 4 + k]? = (#[.bool false, .slice none 0 0, .slice none 0 0, .slice none 0 0] : Array Value)[k]? := by
  have h1 : i * 4 + k < n * 4 := by omega
  have h2 : (i * 4 + k) % 4 = k := by omega
  simp only [stZ, madeCells, Array.getElem?_map, Array.getElem?_range, h1, if_true, Option.map_some, List.size_toArray, List.length_cons, List.length_nil, Nat.zero_add, Nat.reduceAdd, h2]
  rcases (by omega : k = 0 ∨ k = 1 ∨ k = 2 ∨ k = 3) with rfl | rfl | rfl | rfl <;> rfl
theorem own_none (B : Nat) (w : World) : OwnTy B w (.slice none 0 0) [] := ⟨rfl, .inl ⟨rfl, rfl⟩⟩
theorem flow_new {wB W : World} {pb : Nat} {p : Pg} {c : Cl} {m : Mt} {c0 c1 c2 c3 c4 m0 m1 m2 m3 m4 m5 m6 m7 : Value} (hb : Below wB.heap.size wB W) (H : ProgIs wB pb p) (hc : clK.K wB c [c0, c1, c2, c3, c4]) (hm : mtK.K wB m [m0, m1, m2, m3, m4, m5, m6, m7]) (n : Nat) :
    FlowAt wB ((W.alloc (.cells (stZ n) ST)).alloc (.cells (flowCs pb W.heap.size n false c0 c1 c2 c3 c4 m0 m1 m2 m3 m4 m5 m6 m7) FT)) (W.heap.size + 1) W.heap.size pb p c m (List.replicate n default) false := by
  have hl : (List.replicate n (default : St)).length = n := List.length_replicate
  refine ⟨bthen hb (bthen (balloc _ _) (balloc _ _)), by have := hb.size; omega, hb.size, H, ⟨c0, c1, c2, c3, c4, m0, m1, m2, m3, m4, m5, m6, m7, ?_, hc, hm⟩, _, blk_alloc (blk_new _ _) _, by rw [stZ_size, hl], fun i s hi => ?_⟩
  · rw [hl]
    exact blk_second W _ _
  · rw [List.getElem?_replicate] at hi
    split at hi
    · rename_i hlt
      cases hi
      exact ⟨.slice none 0 0, .slice none 0 0, (stZ_at (k := 0) hlt (by decide)), (stZ_at (k := 1) hlt (by decide)), (stZ_at (k := 2) hlt (by decide)), (stZ_at (k := 3) hlt (by decide)), own_none _ _, own_none _ _⟩
    · cases hi
theorem entry_len {cls : Nm} {m : Mt} {n : Nat} (hn : m.locals = n) (hp : m.params.length < n) : (entry cls m).locals.length = n := by
  simp only [entry, List.length_append, List.length_cons, List.length_replicate, hn, Int.toNat_natCast]
  omega
theorem ok_start {n k : Nat} {most : Int} : StOk n most (List.replicate k default) := by
  intro i s hi hr
  rw [List.getElem?_replicate] at hi
  split at hi
  · cases hi; cases hr
  · cases hi
end Go.Proofs.Ytpdjkclacbgneaa
