/- loomlaw8: what the walk asks of a program, by evaluation; known. -/
import Derived.Test.YtpdjkclacbgneaaLw1
set_option linter.unusedVariables false
set_option linter.unusedSimpArgs false
namespace Go.Proofs.Ytpdjkclacbgneaa
open Go.RowKit Go.Shelf Go.Proofs.YtpdjkclacbgneaaW.PrintWords Go.Proofs.Ytpdjkclacbgneaa.Pl

instance okInsDec (c : Cl) (n : Nat) (i : In) : Decidable (okIns c n i) := by unfold okIns; infer_instance
def insOkB (c : Cl) (m : Mt) (j : Nat) (x : In) : Bool := plainOp x.op && decide (okIns c m.locals.toNat x) && decide (jumps x.op = true → 0 ≤ x.a ∧ x.a < m.code.length) && (stops x.op || decide (j + 1 < m.code.length))
def mtOkB (c : Cl) (m : Mt) : Bool := decide (m.handlers = []) && decide (0 ≤ m.locals ∧ m.locals ≤ 900 ∧ m.stack ≤ 800 ∧ 0 < m.code.length ∧ m.code.length ≤ 100000 ∧ m.params.length < m.locals.toNat) && (List.range m.code.length).all fun j => insOkB c m j (m.code.getD j default)
def okB (p : Pg) : Bool := decide (0 < p.h.length) && p.cs.all fun e => e.2.methods.all (mtOkB e.2)
theorem mtOkB_ok {c : Cl} {m : Mt} (h : mtOkB c m = true) : ∃ n, MtOk c m n ∧ m.locals = n ∧ m.params.length < n ∧ m.code.length ≤ 100000 := by
  simp only [mtOkB, Bool.and_eq_true, decide_eq_true_eq, List.all_eq_true, List.mem_range] at h
  obtain ⟨⟨h1, h2, h3, h4, h5, h6, h7⟩, h8⟩ := h
  refine ⟨m.locals.toNat, ⟨h1, by omega, h4, h5, fun i x hx => ?_⟩, by omega, h7, h6⟩
  have hi := (List.getElem?_eq_some_iff.1 hx).1
  have h9 := h8 i hi
  rw [List.getD_eq_getElem?_getD, hx, Option.getD_some] at h9
  simp only [insOkB, Bool.and_eq_true, decide_eq_true_eq, Bool.or_eq_true] at h9
  obtain ⟨⟨⟨a1, a2⟩, a3⟩, a4⟩ := h9
  refine ⟨a1, a2, a3, fun hs => ?_⟩
  rcases a4 with a4 | a4
  · rw [hs] at a4; cases a4
  · exact a4
theorem look_mem {α : Type} (z : α) : ∀ (l : List (Nm × α)) (n : Nm), Pl.look z l n = z ∨ ∃ k, (k, Pl.look z l n) ∈ l
  | [], n => .inl rfl
  | (k, v) :: r, n => by
    rw [Pl.look]
    split
    · exact .inr ⟨k, List.mem_cons_self⟩
    · rcases look_mem z r n with h | ⟨k', h⟩
      · exact .inl h
      · exact .inr ⟨k', List.mem_cons_of_mem _ h⟩
theorem okB_all {p : Pg} (h : okB p = true) : AllOk p ∧ 0 < p.h.length := by
  simp only [okB, Bool.and_eq_true, decide_eq_true_eq, List.all_eq_true] at h
  obtain ⟨h1, h2⟩ := h
  refine ⟨fun c nm m hm => ?_, h1⟩
  have hmem := List.mem_of_find?_eq_some hm
  rcases look_mem (default : Cl) p.cs c with h3 | ⟨k, h3⟩
  · rw [clsOf, h3] at hmem
    exact absurd hmem List.not_mem_nil
  · exact mtOkB_ok (h2 _ h3 m hmem)
/-- All that a law asks of one code. -/
def accOk (code : List In) (pool : List Cn) (q : Bool × Bool) : Bool := decide (accB code pool 100 = some q) && (decide ((link (ofC code pool)).1 ≠ 0) || okB (link (ofC code pool)).2) && pool.all (fun x => decide (x.kind < 3))
theorem accepted_is {code : List In} {pool : List Cn} {q : Bool × Bool} (ho : accOk code pool q = true) {B : Nat} {v u : Value} {w : World} (h : OwnIn B w v code) {P : Option Addr} {d : Nat} (hu : u = .slice P pool.length d) (hd : pool.length ≤ d) (hp : cnK.C w P pool.length pool) :
    Calls Try.prog 14 #[v, u] w fun e w' => e = .returned (.tuple #[.bool q.1, .bool q.2]) ∧ Below w.heap.size w w' := by
  obtain ⟨A, c, rfl, hc, hC⟩ := h.reads
  subst hu
  simp only [accOk, Bool.and_eq_true, decide_eq_true_eq, Bool.or_eq_true, List.all_eq_true] at ho
  obtain ⟨⟨h1, h2⟩, h3⟩ := ho
  exact accepted_any code pool A P c d 100 q w hc hC hd hp h3 h1 (fun h0 => okB_all (h2.resolve_left (fun h => h h0)))
def codeA : List In := [⟨3, 0⟩, ⟨5, 1⟩, ⟨33, 0⟩]
def codeB : List In := [⟨3, 0⟩, ⟨8, 0⟩, ⟨33, 0⟩]
end Go.Proofs.Ytpdjkclacbgneaa
