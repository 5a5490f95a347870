/- VerifyHeights: what accepted answers of a row of pushes and pops; the law's own count. -/
import Derived.Test.YtpdjkclacbgneaaLw3
import Derived.Test.YtpdjkclacbgneaaHgt
set_option linter.unusedVariables false
set_option linter.unusedSimpArgs false
namespace Go.Proofs.Ytpdjkclacbgneaa
open Go.RowKit Go.Shelf Go.Proofs.YtpdjkclacbgneaaW.PrintWords Go.Proofs.Ytpdjkclacbgneaa.Pl

theorem codeH_last {l : List Bool} {j : Nat} {x : In} (hj : j + 1 = (codeH l).length) (hx : (codeH l).getD j default = x) : x = ⟨33, 0⟩ := by
  rw [codeH_len] at hj
  rw [← hx, List.getD_eq_getElem?_getD, codeH, List.getElem?_append_right (by simp; omega)]
  simp [show j - l.length = 0 by omega]
theorem mtOk_H {l : List Bool} (hl : l.length ≤ 100) : mtOkB (clC (codeH l)) (mtC (codeH l)) = true := by
  have hlen := codeH_len l
  have h1 : (List.range (mtC (codeH l)).code.length).all (fun j => insOkB (clC (codeH l)) (mtC (codeH l)) j ((mtC (codeH l)).code.getD j default)) = true := by
    rw [List.all_eq_true]
    intro j hj
    have hj := List.mem_range.1 hj
    have hj : j < (codeH l).length := hj
    show insOkB (clC (codeH l)) (mtC (codeH l)) j ((codeH l).getD j default) = true
    obtain ⟨x, hx⟩ : ∃ x, (codeH l).getD j default = x := ⟨_, rfl⟩
    have hm : x ∈ codeH l := by
      rw [← hx, List.getD_eq_getElem?_getD, List.getElem?_eq_getElem hj]
      exact List.getElem_mem hj
    rw [hx]
    have hs : stops x.op = true ∨ j + 1 < (mtC (codeH l)).code.length := by
      by_cases h : j + 1 < (codeH l).length
      · exact .inr h
      · left
        rw [codeH_last (by omega) hx]
        rfl
    simp only [insOkB, Bool.and_eq_true, Bool.or_eq_true, decide_eq_true_eq]
    refine ⟨⟨⟨?_, ?_⟩, ?_⟩, hs⟩
    · rcases in_codeH hm with rfl | rfl | rfl <;> rfl
    · rcases in_codeH hm with rfl | rfl | rfl <;> exact ⟨fun h => absurd h (by decide), fun h => absurd h (by decide)⟩
    · rcases in_codeH hm with rfl | rfl | rfl <;> exact fun h => absurd h (by decide)
  unfold mtOkB
  rw [h1, Bool.and_true, Bool.and_eq_true, decide_eq_true_eq, decide_eq_true_eq]
  refine ⟨rfl, by show (0 : Int) ≤ 3; decide, by show (3 : Int) ≤ 900; decide, by show (3 : Int) ≤ 800; decide, ?_, ?_, by show 0 < 3; decide⟩
  · show 0 < (codeH l).length
    omega
  · show (codeH l).length ≤ 100000
    omega
theorem ok_H {l : List Bool} (hl : l.length ≤ 100) : okB (pgC (codeH l)) = true := by
  have h1 : (pgC (codeH l)).cs = [(nObject, cObject), (nFault, cFault), (nMain, clC (codeH l))] := rfl
  have h2 : decide (0 < (pgC (codeH l)).h.length) = true := by kernel_rfl
  unfold okB
  rw [h2, h1]
  simp only [List.all_cons, List.all_nil, show cObject.methods = [] from rfl, show cFault.methods = [] from rfl, show (clC (codeH l)).methods = [mtC (codeH l)] from rfl, mtOk_H hl]
  rfl
theorem acc_H {l : List Bool} (hl : l.length ≤ 100) : accB (codeH l) [] 100 = some (goodH 0 l, true) ∧ ((Pl.link (ofC (codeH l) [])).1 = 0 → AllOk (Pl.link (ofC (codeH l) [])).2 ∧ 0 < (Pl.link (ofC (codeH l) [])).2.h.length) := by
  have hk : Pl.link (ofC (codeH l) []) = (0, pgC (codeH l)) := link_H hl
  obtain ⟨e, h1, h2⟩ := vall_H l
  refine ⟨?_, fun _ => by rw [hk]; exact okB_all (ok_H hl)⟩
  unfold accB
  rw [hk, if_neg (by show ¬ ((0 : Int) ≠ 0); decide), h1]
  have h3 : (e == 0) = goodH 0 l := by
    rcases hg : goodH 0 l with _ | _
    · rw [hg] at h2
      have : ¬ e = 0 := fun h => by have := h2.1 h; cases this
      simp [this]
    · simp [h2.2 hg]
  simp only [h3]
theorem accepted_own {code : List In} {q : Bool × Bool} (h1 : accB code [] 100 = some q) (h2 : (Pl.link (ofC code [])).1 = 0 → AllOk (Pl.link (ofC code [])).2 ∧ 0 < (Pl.link (ofC code [])).2.h.length) {B : Nat} {v : Value} {w : World} (h : OwnIn B w v code) :
    Calls Try.prog 14 #[v, .slice none 0 0] w fun e w' => e = .returned (.tuple #[.bool q.1, .bool q.2]) ∧ Below w.heap.size w w' := by
  obtain ⟨A, c, rfl, hc, hC⟩ := h.reads
  exact accepted_any code [] A none c 0 100 q w hc hC (Nat.le_refl _) (row_none _ _) (fun x hx => absurd hx List.not_mem_nil) h1 h2
/-- The law's own count. -/
def stepH (q : Int × Bool) (b : Bool) : Int × Bool := let n := if b then q.1 + 1 else q.1 - 1; (n, q.2 && decide (0 ≤ n) && decide (n ≤ 3))
def cntH (l : List Bool) : Int × Bool := l.foldl stepH (0, true)
theorem fold_no : ∀ (l : List Bool) (n : Int), (l.foldl stepH (n, false)).2 = false
  | [], _ => rfl
  | b :: r, n => by
    rw [List.foldl_cons]
    exact fold_no r _
theorem fold_is : ∀ (l : List Bool) (h : Nat), h ≤ 3 → (l.foldl stepH ((h : Int), true)).2 = goodH h l
  | [], _, _ => rfl
  | true :: r, h, h3 => by
    rw [List.foldl_cons, goodH]
    by_cases hh : h < 3
    · have e : stepH ((h : Int), true) true = (((h + 1 : Nat) : Int), true) := by
        simp only [stepH, if_true, Prod.mk.injEq, Bool.true_and, Bool.and_eq_true, decide_eq_true_eq]
        omega
      rw [e, fold_is r (h + 1) (by omega), decide_eq_true hh, Bool.true_and]
    · have e : stepH ((h : Int), true) true = ((h : Int) + 1, false) := by
        simp only [stepH, if_true, Prod.mk.injEq, true_and, Bool.true_and, Bool.and_eq_false_iff, decide_eq_false_iff_not]
        omega
      rw [e, fold_no, decide_eq_false hh, Bool.false_and]
  | false :: r, h, h3 => by
    rw [List.foldl_cons, goodH]
    by_cases hh : 0 < h
    · have e : stepH ((h : Int), true) false = (((h - 1 : Nat) : Int), true) := by
        simp only [stepH, if_false, Bool.false_eq_true, Prod.mk.injEq, Bool.true_and, Bool.and_eq_true, decide_eq_true_eq]
        omega
      rw [e, fold_is r (h - 1) (by omega), decide_eq_true hh, Bool.true_and]
    · have e : stepH ((h : Int), true) false = ((h : Int) - 1, false) := by
        simp only [stepH, if_false, Bool.false_eq_true, Prod.mk.injEq, true_and, Bool.true_and, Bool.and_eq_false_iff, decide_eq_false_iff_not]
        omega
      rw [e, fold_no, decide_eq_false hh, Bool.false_and]
theorem cnt_is (l : List Bool) : (cntH l).2 = goodH 0 l := fold_is l 0 (Nat.zero_le 3)
theorem cnt_bound : ∀ (l : List Bool) (q : Int × Bool), q.1 - l.length ≤ (l.foldl stepH q).1 ∧ (l.foldl stepH q).1 ≤ q.1 + l.length
  | [], q => by simp
  | b :: r, q => by
    have h := cnt_bound r (stepH q b)
    rw [List.foldl_cons]
    cases b <;> simp only [stepH, if_true, if_false, Bool.false_eq_true, List.length_cons] at h ⊢ <;> omega
theorem cnt_step {l : List Bool} {k : Nat} {b : Bool} (h : l[k]? = some b) : cntH (l.take (k + 1)) = stepH (cntH (l.take k)) b := by
  unfold cntH
  rw [List.take_add_one, h, List.foldl_append]
  rfl
end Go.Proofs.Ytpdjkclacbgneaa
