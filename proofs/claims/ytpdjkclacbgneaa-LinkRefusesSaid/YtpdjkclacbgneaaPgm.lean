/- Linked programs as they lie in memory; link's there, Method. -/
import Derived.Test.YtpdjkclacbgneaaNew
set_option linter.unusedVariables false
set_option linter.unusedSimpArgs false
namespace Go.Proofs.Ytpdjkclacbgneaa
open Go.RowKit Go.Shelf Go.Proofs.YtpdjkclacbgneaaW.PrintWords Go.Proofs.Ytpdjkclacbgneaa.Pl

/-- Every class above a class leads to Object. -/
def Good (h : Hier) : Prop := ∀ n, Pl.has h n = true → Pl.round h (h.length + 1) n = false
def ClsIs (w : World) : List (Nm × Cl) → List (Nm × Value) → Prop
  | [], [] => True
  | (n, c) :: r, (k, v) :: s => n = k ∧ (∃ cs, v = .agg cs.toArray ∧ clK.K w c cs) ∧ ClsIs w r s
  | _, _ => False
theorem ClsIs.below {w w1 : World} (hb : Below w.heap.size w w1) : ∀ {l : List (Nm × Cl)} {vs : List (Nm × Value)}, ClsIs w l vs → ClsIs w1 l vs
  | [], [], _ => trivial
  | (n, c) :: r, (k, v) :: s, ⟨h1, ⟨cs, h2, h3⟩, h4⟩ => ⟨h1, ⟨cs, h2, clK.K_below hb h3⟩, ClsIs.below hb h4⟩
  | [], _ :: _, h => h.elim
  | _ :: _, [], h => h.elim
def zCl : List Value := [.string ⟨#[]⟩, .string ⟨#[]⟩, .slice none 0 0, .slice none 0 0, .slice none 0 0]
theorem zCl_K (w : World) : clK.K w default zCl := clK_mk (m := default) ⟨Nat.le_refl 0, Nat.le_refl 0, Nat.le_refl 0⟩ (Kd.C_nil cnK w) (Kd.C_nil fdK w) (Kd.C_nil mtK w)
def zMt : List Value := [.string ⟨#[]⟩, .slice none 0 0, .int .i64 0, .string ⟨#[]⟩, .int .i64 0, .int .i64 0, .slice none 0 0, .slice none 0 0]
theorem zMt_K (w : World) : mtK.K w default zMt := mtK_mk (m := default) ⟨Nat.le_refl 0, Nat.le_refl 0, Nat.le_refl 0⟩ (Kd.C_nil tyK w) (Kd.C_nil inK w) (Kd.C_nil hnK w)
theorem ClsIs.look {w : World} (n : Nm) : ∀ {l : List (Nm × Cl)} {vs : List (Nm × Value)}, ClsIs w l vs → ∃ cs, Pl.look (.agg zCl.toArray) vs n = .agg cs.toArray ∧ clK.K w (Pl.look default l n) cs
  | [], [], _ => ⟨zCl, rfl, zCl_K w⟩
  | (m, c) :: r, (k, v) :: s, ⟨h1, ⟨cs, h2, h3⟩, h4⟩ => by
    subst h1
    by_cases hm : m = n
    · exact ⟨cs, by simp [Pl.look, hm, h2], by simp only [Pl.look, hm, if_true]; exact h3⟩
    · obtain ⟨cs', a, b⟩ := ClsIs.look n h4
      exact ⟨cs', by simp [Pl.look, hm, a], by simp only [Pl.look, hm, if_false]; exact b⟩
  | [], _ :: _, h => h.elim
  | _ :: _, [], h => h.elim
theorem ClsIs.has {w : World} (n : Nm) : ∀ {l : List (Nm × Cl)} {vs : List (Nm × Value)}, ClsIs w l vs → Pl.has vs n = Pl.has l n
  | [], [], _ => rfl
  | (m, c) :: r, (k, v) :: s, ⟨h1, _, h4⟩ => by
    subst h1
    by_cases hm : m = n
    · simp [Pl.has, hm]
    · simp only [Pl.has, hm, if_false]
      exact ClsIs.has n h4
  | [], _ :: _, h => h.elim
  | _ :: _, [], h => h.elim
theorem ClsIs.put {w : World} (n : Nm) (c : Cl) (cs : List Value) (hc : clK.K w c cs) : ∀ {l : List (Nm × Cl)} {vs : List (Nm × Value)}, ClsIs w l vs → ClsIs w (Pl.put l n c) (Pl.put vs n (.agg cs.toArray))
  | [], [], _ => ⟨rfl, ⟨cs, rfl, hc⟩, trivial⟩
  | (m, d) :: r, (k, v) :: s, ⟨h1, h2, h4⟩ => by
    subst h1
    by_cases hm : m = n
    · simp only [Pl.put, hm, if_true]
      exact ⟨rfl, ⟨cs, rfl, hc⟩, h4⟩
    · simp only [Pl.put, hm, if_false]
      exact ⟨rfl, h2, ClsIs.put n c cs hc h4⟩
  | [], _ :: _, h => h.elim
  | _ :: _, [], h => h.elim
/-- The program that the block pb is. -/
structure ProgIs (w : World) (pb : Nat) (p : Pg) : Prop where
  good : Good p.h
  hier : ∃ g, w.cell? ⟨pb, 0, none⟩ = some (.pointer (some ⟨g, 0, none⟩)) ∧ HierIs w g p.h
  cls : ∃ b vs, w.cell? ⟨pb, 1, none⟩ = some (.map (some b)) ∧ MapIs w b vs ∧ ClsIs w p.cs vs
theorem ProgIs.below {w w1 : World} {pb : Nat} {p : Pg} (H : ProgIs w pb p) (hb : Below w.heap.size w w1) : ProgIs w1 pb p := by
  obtain ⟨h0, ⟨g, h1, h2⟩, b, vs, h3, h4, h5⟩ := H
  exact ⟨h0, ⟨g, pw_cell_below hb h1, h2.below hb⟩, b, vs, pw_cell_below hb h3, h4.below hb, h5.below hb⟩
theorem ProgIs.lt {w : World} {pb : Nat} {p : Pg} (H : ProgIs w pb p) : pb < w.heap.size := by
  obtain ⟨g, h1, _⟩ := H.hier
  exact World.block_lt_of_cell? w _ h1
theorem results_tct {P : Program} {fn : Func} {p u v : Tmp} {ty : TypeId} (h : fn.results = #[.tmp u, .cell p ty, .tmp v]) (tmps : Array Value) (w : World) (g : Nat) (t : TypeId) (cs : Array Value) (fr : Nat × Nat) (d : TypeDesc)
    (hp : tmps.getD p undef = .pointer (some ⟨g, 0, none⟩)) (hg : w.heap[g]? = some (.cells cs t fr))
    (hu : P.underlying ty = some d) (hd : (match d with | .struct _ | .array _ _ => true | _ => false) = true) (hi : (P.info? ty).map (·.size) = some cs.size) :
    (results fn tmps).run P w = .ok (.tuple #[tmps.getD u undef, .agg cs, tmps.getD v undef]) w := by
  have hp' : tmps[p]?.getD undef = .pointer (some ⟨g, 0, none⟩) := by simpa using hp
  simp [results, h, hp', asAddr, run_loadVar_row w g t ty cs fr d hg hu hd hi]
/-- A class of the program's, by its name. -/
theorem ProgIs.look {w : World} {pb : Nat} {p : Pg} (H : ProgIs w pb p) : ∃ b, w.cell? ⟨pb, 1, none⟩ = some (.map (some b)) ∧ ∀ n, ∃ cs, clK.K w (clsOf p n) cs ∧
    (Instr.lookup 91 (.map (some b)) (.string n) false).run Try.prog w = .ok (.agg cs.toArray) w ∧ (Instr.lookup 91 (.map (some b)) (.string n) true).run Try.prog w = .ok (.tuple #[.agg cs.toArray, .bool (Pl.has p.cs n)]) w := by
  obtain ⟨b, vs, h3, h4, h5⟩ := H.cls
  refine ⟨b, h3, fun n => ?_⟩
  obtain ⟨cs, h6, h7⟩ := h5.look n
  refine ⟨cs, h7, ?_, ?_⟩
  · have := run_look (P := Try.prog) (s := n) h4 Try.underlying91 Try.underlying9 (z := .agg zCl.toArray) (by kernel_rfl) false
    rw [h6] at this
    exact this
  · have := run_look (P := Try.prog) (s := n) h4 Try.underlying91 Try.underlying9 (z := .agg zCl.toArray) (by kernel_rfl) true
    rw [h6, h5.has n] at this
    exact this
end Go.Proofs.Ytpdjkclacbgneaa
