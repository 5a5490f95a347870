/- VerifyHeights' plain law: pushes and pops in a row, as the verifier sees them. -/
import Derived.Test.YtpdjkclacbgneaaVPure
import Derived.KernelRfl
set_option linter.unusedVariables false
set_option linter.unusedSimpArgs false
namespace Go.Proofs.Ytpdjkclacbgneaa.Pl
open Go.Proofs.YtpdjkclacbgneaaW.PrintWords

def mtC (code : List In) : Mt := ⟨nmain, [], ⟨0, nil⟩, 3, 3, code, []⟩
def clC (code : List In) : Cl := ⟨nMain, nil, [], [], [mtC code]⟩
def pgC (code : List In) : Pg := ⟨(hier [(nMain, nil)]).2, [(nObject, cObject), (nFault, cFault), (nMain, clC code)]⟩
def inH (b : Bool) : In := if b then ⟨3, 0⟩ else ⟨6, 0⟩
def codeH (l : List Bool) : List In := l.map inH ++ [⟨33, 0⟩]
def L0 : List Ty := [refT nMain, kindT 6, kindT 6]
def stH (h : Nat) : St := ⟨true, L0, List.replicate h (kindT 5)⟩
def goodH : Nat → List Bool → Bool
  | _, [] => true
  | h, true :: r => decide (h < 3) && goodH (h + 1) r
  | h, false :: r => decide (0 < h) && goodH (h - 1) r
def stsH : Nat → List Bool → List St
  | h, [] => [stH h]
  | h, true :: r => stH h :: stsH (h + 1) r
  | h, false :: r => stH h :: stsH (h - 1) r
theorem link_lin (code : List In) (h : check (clC code) = 0) : link [clC code] = (0, pgC code) := by
  have h1 : firstOf check [clC code] = 0 := by rw [firstOf, if_pos h]; rfl
  have h2 : hier ([clC code].map fun c => (c.name, c.super)) = (0, (hier [(nMain, nil)]).2) := by show hier [(nMain, nil)] = _; decide +kernel
  unfold link
  rw [if_neg (by rw [h1]; decide), h2]
  have h3 : progOf (hier [(nMain, nil)]).2 [clC code] = pgC code := by kernel_rfl
  have h4 : firstOf (members (pgC code)) [clC code] = 0 := by kernel_rfl
  have h5 : firstOf (fun c => firstOf (pool1 (pgC code)) c.pool) [clC code] = 0 := by kernel_rfl
  have h6 : meth (pgC code) nMain nmain = (nMain, mtC code, true) := by kernel_rfl
  simp only [h3, h4, h5, h6]
  rfl
theorem check_lin (code : List In) (h : body (clC code) (mtC code) = 0) : check (clC code) = 0 := by
  have h1 : method (clC code) [] (mtC code) = body (clC code) (mtC code) := by kernel_rfl
  have h2 : check (clC code) = firstOn (method (clC code)) [] [mtC code] := by kernel_rfl
  rw [h2, firstOn, if_pos (h1.trans h)]
  rfl
theorem firstOf_all {α : Type} {f : α → Int} : ∀ {l : List α}, (∀ x, x ∈ l → f x = 0) → firstOf f l = 0
  | [], _ => rfl
  | x :: r, h => by
    rw [firstOf, if_pos (h x List.mem_cons_self)]
    exact firstOf_all fun y hy => h y (List.mem_cons_of_mem _ hy)
theorem in_codeH {l : List Bool} {x : In} (h : x ∈ codeH l) : x = ⟨3, 0⟩ ∨ x = ⟨6, 0⟩ ∨ x = ⟨33, 0⟩ := by
  unfold codeH at h
  rcases List.mem_append.1 h with h | h
  · obtain ⟨b, _, rfl⟩ := List.mem_map.1 h
    cases b
    · exact .inr (.inl rfl)
    · exact .inl rfl
  · exact .inr (.inr (List.mem_singleton.1 h))
theorem codeH_len (l : List Bool) : (codeH l).length = l.length + 1 := by simp [codeH]
theorem body_lin {l : List Bool} (hl : l.length ≤ 100) : body (clC (codeH l)) (mtC (codeH l)) = 0 := by
  have hlen := codeH_len l
  have h1 : firstOf (ins (clC (codeH l)) (mtC (codeH l))) (codeH l) = 0 := firstOf_all fun x hx => by
    rcases in_codeH hx with rfl | rfl | rfl <;> rfl
  have h2 : (codeH l).getD ((codeH l).length - 1) default = ⟨33, 0⟩ := by
    rw [hlen, List.getD_eq_getElem?_getD, codeH, List.getElem?_append_right (by simp)]
    simp
  unfold body
  rw [if_neg (by show ¬ ((codeH l).length < 1 ∨ 200 < (codeH l).length); omega), if_neg (by show ¬ firstOf _ (codeH l) ≠ 0; rw [h1]; decide), if_neg (by show ¬ stops ((codeH l).getD ((codeH l).length - 1) default).op = false; rw [h2]; decide), if_neg (by show ¬ (16 < 0); decide)]
  rfl
theorem link_H {l : List Bool} (hl : l.length ≤ 100) : link [clC (codeH l)] = (0, pgC (codeH l)) := link_lin _ (check_lin _ (body_lin hl))
section
variable {p : Pg} {c : Cl} {code : List In} {l : List St} {ch : Bool} {j h : Nat}
theorem goes_null (hi : code.getD j default = ⟨3, 0⟩) (hs : l.getD j default = stH h) : goes p c (mtC code) l ch j = if 3 ≤ h then ⟨81, l, ch⟩ else joins p 3 l ch (j + 1) (stH (h + 1)) := by
  have hr : does p c 0 ⟨L0, List.replicate h (kindT 5), 0⟩ ⟨3, 0⟩ = ⟨L0, List.replicate (h + 1) (kindT 5), 0⟩ := by
    show push ⟨L0, List.replicate h (kindT 5), 0⟩ (kindT 5) = _
    rw [push, List.replicate_succ']
  unfold goes
  show (let i := code.getD j default; _) = _
  simp only [show (mtC code).code = code from rfl, hi, hs]
  simp only [show (mtC code).ret.kind = 0 from rfl, show (stH h).locals = L0 from rfl, show (stH h).stack = List.replicate h (kindT 5) from rfl, hr, show (mtC code).stack = 3 from rfl, List.length_replicate]
  by_cases h3 : 3 ≤ h
  · rw [if_neg (by decide), if_pos (by omega), if_pos h3]
  · rw [if_neg (by decide), if_neg (by omega), if_neg h3]
    rfl
theorem goes_pop (h3 : h ≤ 3) (hi : code.getD j default = ⟨6, 0⟩) (hs : l.getD j default = stH h) : goes p c (mtC code) l ch j = if h = 0 then ⟨81, l, ch⟩ else joins p 3 l ch (j + 1) (stH (h - 1)) := by
  have hr : does p c 0 ⟨L0, List.replicate h (kindT 5), 0⟩ ⟨6, 0⟩ = if h = 0 then ⟨L0, [], 81⟩ else ⟨L0, List.replicate (h - 1) (kindT 5), 0⟩ := by
    show popR ⟨L0, List.replicate h (kindT 5), 0⟩ = _
    unfold popR
    simp only [List.length_replicate]
    by_cases h0 : h = 0
    · subst h0; rfl
    · rw [if_neg h0, if_neg h0, List.take_replicate, Nat.min_eq_left (by omega)]
  unfold goes
  simp only [show (mtC code).code = code from rfl, hi, hs]
  simp only [show (mtC code).ret.kind = 0 from rfl, show (stH h).locals = L0 from rfl, show (stH h).stack = List.replicate h (kindT 5) from rfl, hr, show (mtC code).stack = 3 from rfl]
  by_cases h0 : h = 0
  · simp only [h0, if_true]
    rw [if_pos (by decide)]
  · simp only [if_neg h0, List.length_replicate]
    rw [if_neg (by decide), if_neg (by omega)]
    rfl
theorem goes_ret (h3 : h ≤ 3) (hi : code.getD j default = ⟨33, 0⟩) (hs : l.getD j default = stH h) : goes p c (mtC code) l ch j = ⟨0, l, ch⟩ := by
  unfold goes
  simp only [show (mtC code).code = code from rfl, hi, hs]
  simp only [show (mtC code).ret.kind = 0 from rfl, show (stH h).locals = L0 from rfl, show (stH h).stack = List.replicate h (kindT 5) from rfl, show does p c 0 ⟨L0, List.replicate h (kindT 5), 0⟩ ⟨33, 0⟩ = ⟨L0, List.replicate h (kindT 5), 0⟩ from rfl, show (mtC code).stack = 3 from rfl, List.length_replicate]
  rw [if_neg (by decide), if_neg (by omega)]
  rfl
theorem joins_first (h3 : h ≤ 3) (hs : l.getD j default = default) : joins p 3 l ch j (stH h) = ⟨0, l.set j (stH h), true⟩ := by
  unfold joins
  simp only [hs, show (stH h).stack = List.replicate h (kindT 5) from rfl, List.length_replicate]
  rw [if_neg (by omega)]
  rfl
theorem mergeL_same (p : Pg) : ∀ l : List Ty, mergeL p l l = l
  | [] => rfl
  | t :: r => by rw [mergeL, mergeL_same p r, merge, if_pos rfl]
theorem joins_same (h3 : h ≤ 3) (hs : l.getD j default = stH h) : joins p 3 l ch j (stH h) = ⟨0, l.set j (stH h), ch⟩ := by
  unfold joins
  simp only [hs, mergeL_same]
  rw [if_neg (by show ¬ ((3 : Int) < ((List.replicate h (kindT 5)).length : Int)); rw [List.length_replicate]; omega), if_neg (by show ¬ (true = false); decide), if_neg (by simp), if_neg]
  · simp
  · show ¬ (List.replicate h (kindT 5)).any _ = true
    rw [List.any_replicate]
    split <;> simp [kindT]
end
theorem getD_app {α : Type} [Inhabited α] (A : List α) (x : α) (B : List α) {j : Nat} (hj : A.length = j) : (A ++ x :: B).getD j default = x := by
  subst hj
  simp [List.getD_eq_getElem?_getD]
theorem set_app {α : Type} (A : List α) (x y : α) (B : List α) {j : Nat} (hj : A.length = j) : (A ++ x :: B).set j y = A ++ y :: B := by
  subst hj
  simp
theorem code_step {code : List In} {j : Nat} {x : In} {r : List In} (h : code.drop j = x :: r) : code.getD j default = x ∧ code.drop (j + 1) = r := by
  have h1 : code[j]? = some x := by
    have := congrArg (fun l => l[0]?) h
    simpa using this
  refine ⟨by rw [List.getD_eq_getElem?_getD, h1]; rfl, ?_⟩
  rw [← List.drop_drop, h]
  rfl
theorem pass_cons {p : Pg} {c : Cl} {m : Mt} {n pc h : Nat} {l : List St} {ch : Bool} (hs : l.getD pc default = stH h) : pass p c m (n + 1) pc l ch = if (goes p c m l ch pc).e ≠ 0 then goes p c m l ch pc else pass p c m n (pc + 1) (goes p c m l ch pc).l (goes p c m l ch pc).changed := by
  rw [pass, hs]
  rfl
theorem pass_one (p : Pg) (c : Cl) (code : List In) : ∀ (r : List Bool) (j h : Nat) (A : List St) (ch : Bool), A.length = j → h ≤ 3 → code.drop j = codeH r →
    (goodH h r = true → pass p c (mtC code) (r.length + 1) j (A ++ stH h :: List.replicate r.length default) ch = ⟨0, A ++ stsH h r, ch || decide (0 < r.length)⟩) ∧ (goodH h r = false → (pass p c (mtC code) (r.length + 1) j (A ++ stH h :: List.replicate r.length default) ch).e = 81)
  | [], j, h, A, ch, hA, h3, hc => by
    obtain ⟨hi, _⟩ := code_step (show code.drop j = ⟨33, 0⟩ :: [] from hc)
    have hs : (A ++ stH h :: List.replicate ([] : List Bool).length (default : St)).getD j default = stH h := getD_app _ _ _ hA
    rw [pass_cons hs, goes_ret h3 hi hs]
    refine ⟨fun _ => ?_, fun hg => by cases hg⟩
    rw [if_neg (by show ¬ ((0 : Int) ≠ 0); decide)]
    show (⟨0, _, ch⟩ : Fl) = _
    simp [stsH]
  | true :: r, j, h, A, ch, hA, h3, hc => by
    obtain ⟨hi, hc1⟩ := code_step (show code.drop j = ⟨3, 0⟩ :: codeH r from hc)
    have hs : (A ++ stH h :: List.replicate (true :: r).length (default : St)).getD j default = stH h := getD_app _ _ _ hA
    rw [pass_cons hs, goes_null hi hs]
    by_cases hh : 3 ≤ h
    · rw [if_pos hh]
      refine ⟨fun hg => ?_, fun _ => ?_⟩
      · have : decide (h < 3) = false := by simp; omega
        rw [goodH, this] at hg
        cases hg
      · rw [if_pos (by show (81 : Int) ≠ 0; decide)]
    · rw [if_neg hh]
      have e1 : A ++ stH h :: List.replicate (true :: r).length (default : St) = (A ++ [stH h]) ++ default :: List.replicate r.length default := by simp [List.replicate_succ]
      have hs2 : ((A ++ [stH h]) ++ (default : St) :: List.replicate r.length default).getD (j + 1) default = default := getD_app _ _ _ (by simp [hA])
      rw [e1, joins_first (by omega) hs2, set_app _ _ _ _ (by simp [hA])]
      have ih := pass_one p c code r (j + 1) (h + 1) (A ++ [stH h]) true (by simp [hA]) (by omega) hc1
      rw [if_neg (by show ¬ ((0 : Int) ≠ 0); decide)]
      have hg : goodH h (true :: r) = goodH (h + 1) r := by
        rw [goodH, decide_eq_true (by omega : h < 3), Bool.true_and]
      rw [hg]
      refine ⟨fun h1 => ?_, ih.2⟩
      refine (ih.1 h1).trans ?_
      simp [stsH]
  | false :: r, j, h, A, ch, hA, h3, hc => by
    obtain ⟨hi, hc1⟩ := code_step (show code.drop j = ⟨6, 0⟩ :: codeH r from hc)
    have hs : (A ++ stH h :: List.replicate (false :: r).length (default : St)).getD j default = stH h := getD_app _ _ _ hA
    rw [pass_cons hs, goes_pop h3 hi hs]
    by_cases hh : h = 0
    · rw [if_pos hh]
      refine ⟨fun hg => ?_, fun _ => ?_⟩
      · rw [goodH, hh] at hg
        cases hg
      · rw [if_pos (by show (81 : Int) ≠ 0; decide)]
    · rw [if_neg hh]
      have e1 : A ++ stH h :: List.replicate (false :: r).length (default : St) = (A ++ [stH h]) ++ default :: List.replicate r.length default := by simp [List.replicate_succ]
      have hs2 : ((A ++ [stH h]) ++ (default : St) :: List.replicate r.length default).getD (j + 1) default = default := getD_app _ _ _ (by simp [hA])
      rw [e1, joins_first (by omega) hs2, set_app _ _ _ _ (by simp [hA])]
      have ih := pass_one p c code r (j + 1) (h - 1) (A ++ [stH h]) true (by simp [hA]) (by omega) hc1
      rw [if_neg (by show ¬ ((0 : Int) ≠ 0); decide)]
      have hg : goodH h (false :: r) = goodH (h - 1) r := by
        rw [goodH, decide_eq_true (by omega : 0 < h), Bool.true_and]
      rw [hg]
      refine ⟨fun h1 => ?_, ih.2⟩
      refine (ih.1 h1).trans ?_
      simp [stsH]
theorem stsH_len : ∀ (h : Nat) (r : List Bool), (stsH h r).length = r.length + 1
  | h, [] => rfl
  | h, true :: r => by rw [stsH, List.length_cons, stsH_len, List.length_cons]
  | h, false :: r => by rw [stsH, List.length_cons, stsH_len, List.length_cons]
theorem stsH_head (A : List St) (h : Nat) (r : List Bool) {j : Nat} (hj : A.length = j) : (A ++ stsH h r).getD j default = stH h := by
  rcases r with _ | ⟨_ | _, r⟩ <;> exact getD_app _ _ _ hj
theorem set_same {l : List St} {j : Nat} {s : St} (h : l.getD j default = s) (hj : j < l.length) : l.set j s = l := by
  rw [List.getD_eq_getElem?_getD, List.getElem?_eq_getElem hj, Option.getD_some] at h
  subst h
  exact List.set_getElem_self hj
theorem pass_two (p : Pg) (c : Cl) (code : List In) : ∀ (r : List Bool) (j h : Nat) (A : List St) (ch : Bool), A.length = j → h ≤ 3 → code.drop j = codeH r → goodH h r = true → pass p c (mtC code) (r.length + 1) j (A ++ stsH h r) ch = ⟨0, A ++ stsH h r, ch⟩
  | [], j, h, A, ch, hA, h3, hc, _ => by
    obtain ⟨hi, _⟩ := code_step (show code.drop j = ⟨33, 0⟩ :: [] from hc)
    have hs : (A ++ stsH h []).getD j default = stH h := getD_app _ _ _ hA
    rw [pass_cons hs, goes_ret h3 hi hs]
    rw [if_neg (by show ¬ ((0 : Int) ≠ 0); decide)]
    rfl
  | true :: r, j, h, A, ch, hA, h3, hc, hg => by
    obtain ⟨hi, hc1⟩ := code_step (show code.drop j = ⟨3, 0⟩ :: codeH r from hc)
    have hs : (A ++ stsH h (true :: r)).getD j default = stH h := getD_app _ _ _ hA
    rw [goodH, Bool.and_eq_true, decide_eq_true_eq] at hg
    rw [pass_cons hs, goes_null hi hs, if_neg (show ¬ 3 ≤ h by omega)]
    have e1 : A ++ stsH h (true :: r) = (A ++ [stH h]) ++ stsH (h + 1) r := by simp [stsH]
    have hs2 : ((A ++ [stH h]) ++ stsH (h + 1) r).getD (j + 1) default = stH (h + 1) := stsH_head _ _ _ (by simp [hA])
    rw [e1, joins_same (by omega) hs2, set_same hs2 (by have := stsH_len (h + 1) r; simp [hA]; omega)]
    rw [if_neg (by show ¬ ((0 : Int) ≠ 0); decide)]
    exact pass_two p c code r (j + 1) (h + 1) (A ++ [stH h]) ch (by simp [hA]) (by omega) hc1 hg.2
  | false :: r, j, h, A, ch, hA, h3, hc, hg => by
    obtain ⟨hi, hc1⟩ := code_step (show code.drop j = ⟨6, 0⟩ :: codeH r from hc)
    have hs : (A ++ stsH h (false :: r)).getD j default = stH h := getD_app _ _ _ hA
    rw [goodH, Bool.and_eq_true, decide_eq_true_eq] at hg
    rw [pass_cons hs, goes_pop h3 hi hs, if_neg (show ¬ h = 0 by omega)]
    have e1 : A ++ stsH h (false :: r) = (A ++ [stH h]) ++ stsH (h - 1) r := by simp [stsH]
    have hs2 : ((A ++ [stH h]) ++ stsH (h - 1) r).getD (j + 1) default = stH (h - 1) := stsH_head _ _ _ (by simp [hA])
    rw [e1, joins_same (by omega) hs2, set_same hs2 (by have := stsH_len (h - 1) r; simp [hA]; omega)]
    rw [if_neg (by show ¬ ((0 : Int) ≠ 0); decide)]
    exact pass_two p c code r (j + 1) (h - 1) (A ++ [stH h]) ch (by simp [hA]) (by omega) hc1 hg.2
theorem vstart_H (l : List Bool) (p : Pg) : vstart p nMain (mtC (codeH l)) = stH 0 :: List.replicate l.length default := by
  have he : entry nMain (mtC (codeH l)) = stH 0 := by rfl
  have hl : (mtC (codeH l)).code.length = l.length + 1 := codeH_len l
  unfold vstart
  rw [he, hl, show (mtC (codeH l)).stack = 3 from rfl, joins_first (Nat.zero_le 3) (by rw [List.replicate_succ]; rfl), List.replicate_succ]
  rfl
theorem passes_H (l : List Bool) (p : Pg) (c : Cl) : ∃ e L, passes p c (mtC (codeH l)) 100 (vstart p nMain (mtC (codeH l))) = some (e, L) ∧ (e = 0 ↔ goodH 0 l = true) := by
  obtain ⟨h1, h2⟩ := pass_one p c (codeH l) l 0 0 [] false rfl (Nat.zero_le 3) rfl
  rw [vstart_H]
  rw [List.nil_append] at h1 h2
  rcases hg : goodH 0 l with _ | _
  · have h3 := h2 hg
    refine ⟨81, [], ?_, by simp⟩
    rw [passes, show (mtC (codeH l)).code.length = l.length + 1 from codeH_len l]
    simp only [h3]
    rfl
  · have h3 := h1 hg
    rw [List.nil_append, Bool.false_or] at h3
    refine ⟨0, stsH 0 l, ?_, by simp⟩
    rw [passes, show (mtC (codeH l)).code.length = l.length + 1 from codeH_len l, h3]
    show (if decide (0 < l.length) then passes p c (mtC (codeH l)) 99 (stsH 0 l) else some (0, stsH 0 l)) = _
    by_cases h0 : 0 < l.length
    · rw [if_pos (by simpa using h0), passes, show (mtC (codeH l)).code.length = l.length + 1 from codeH_len l]
      have h4 := pass_two p c (codeH l) l 0 0 [] false rfl (Nat.zero_le 3) rfl hg
      rw [List.nil_append] at h4
      rw [h4]
      rfl
    · rw [if_neg (by simpa using h0)]
theorem vall_H (l : List Bool) : ∃ e, vall (pgC (codeH l)) 100 = some e ∧ (e = 0 ↔ goodH 0 l = true) := by
  obtain ⟨e, L, h1, h2⟩ := passes_H l (pgC (codeH l)) (clC (codeH l))
  refine ⟨e, ?_, h2⟩
  have hc : clsOf (pgC (codeH l)) nMain = clC (codeH l) := by kernel_rfl
  have hm : vmethod (pgC (codeH l)) 100 nMain nmain = some (e, L) := by
    unfold vmethod
    rw [hc, show (clC (codeH l)).methods.find? (fun m => decide (m.name = nmain)) = some (mtC (codeH l)) by kernel_rfl]
    exact h1
  have hn : (pgC (codeH l)).h.map (·.1) = [nObject, nFault, nMain] := by kernel_rfl
  have ho : (clsOf (pgC (codeH l)) nObject).methods = [] := by kernel_rfl
  have hf : (clsOf (pgC (codeH l)) nFault).methods = [] := by kernel_rfl
  have hM : vallM (pgC (codeH l)) 100 nMain (clsOf (pgC (codeH l)) nMain).methods = some e := by
    rw [hc]
    show vallM (pgC (codeH l)) 100 nMain [mtC (codeH l)] = some e
    rw [vallM, show (mtC (codeH l)).name = nmain from rfl, hm]
    by_cases h0 : e = 0
    · simp [h0, vallM]
    · simp [h0]
  unfold vall
  rw [hn, vallN, ho]
  simp only [vallM]
  rw [if_neg (by decide), vallN, hf]
  simp only [vallM]
  rw [if_neg (by decide), vallN, hM]
  by_cases h0 : e = 0
  · simp [h0, vallN]
  · simp [h0]
end Go.Proofs.Ytpdjkclacbgneaa.Pl
