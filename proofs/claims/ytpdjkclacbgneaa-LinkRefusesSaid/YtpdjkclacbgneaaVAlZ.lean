/- What is asked of all methods. -/
import Derived.Test.YtpdjkclacbgneaaVMet2
set_option linter.unusedVariables false
set_option linter.unusedSimpArgs false
namespace Go.Proofs.Ytpdjkclacbgneaa
open Go.RowKit Go.Shelf Go.Proofs.YtpdjkclacbgneaaW.PrintWords Go.Proofs.Ytpdjkclacbgneaa.Pl

theorem OwnStr.cells {B : Nat} {w : World} {v : Value} {l : List Nm} (h : OwnStr B w v l) (hne : 0 < l.length) : ∃ ad cap, v = .slice (some ad) l.length cap ∧ (l.length : Int) ≤ 9223372036854775807 ∧ ∀ (j : Nat) (s : Nm), l[j]? = some s → w.cell? (ad.add j) = some (.string s) := by
  obtain ⟨h0, h⟩ := h
  rcases h with ⟨_, h⟩ | ⟨g, cap, cur, rfl, hb, hh, h1, h2, h3, h4⟩
  · omega
  · refine ⟨_, _, rfl, by unfold maxLen at h2; omega, fun j s hj => ?_⟩
    rw [add_zero_off]
    have hlt := (List.getElem?_eq_some_iff.1 hj).1
    refine Bx.cell ⟨hh⟩ ?_
    have e1 : (l.map Value.string)[j]? = some (.string s) := by rw [List.getElem?_map, hj]; rfl
    rw [← h4, List.getElem?_take, if_pos (by omega)] at e1
    rw [← Array.getElem?_toList]
    exact e1
/-- What the walk asks of a program: each method that a name finds is a method as Method takes it. -/
def AllOk (p : Pg) : Prop := ∀ c nm m, (clsOf p c).methods.find? (fun m => decide (m.name = nm)) = some m → ∃ n, MtOk (clsOf p c) m n ∧ m.locals = n ∧ m.params.length < n ∧ m.code.length ≤ 100000
theorem find_self {l : List Mt} {m : Mt} {j : Nat} (h : l[j]? = some m) : ∃ m', l.find? (fun x => decide (x.name = m.name)) = some m' := by
  have : (l.find? (fun x => decide (x.name = m.name))).isSome = true := by
    rw [List.find?_isSome]
    exact ⟨m, List.mem_of_getElem? h, by simp⟩
  exact Option.isSome_iff_exists.1 this
theorem vmethod_calls {wB : World} {pb : Nat} {p : Pg} (cls name : Nm) (H : ProgIs wB pb p) (HA : AllOk p) {m : Mt} (hm : (clsOf p cls).methods.find? (fun m => decide (m.name = name)) = some m) {k : Nat} {a : Int × List St} (hv : vmethod p k cls name = some a) :
    Calls Try.prog 26 #[.pointer (some ⟨pb, 0, none⟩), .string cls, .string name] wB fun x w' => ∃ v, x = .returned (.tuple #[v, .int .i64 a.1]) ∧ Below wB.heap.size wB w' := by
  obtain ⟨n, h1, h2, h3, h4⟩ := HA cls name m hm
  have hres : passes p (clsOf p cls) m k (vstart p cls m) = some (a.1, a.2) := by
    unfold vmethod at hv
    rw [hm] at hv
    exact hv
  refine (vmethod_any wB pb p cls name H m hm n h1 h2 h3 h4 k a.1 a.2 hres).mono ?_
  rintro x w' ⟨v, h5, h6, _⟩
  exact ⟨v, h5, h6⟩
end Go.Proofs.Ytpdjkclacbgneaa
