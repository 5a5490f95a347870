/- Straight code; a Main of some code; RootsStack's plain law. -/
import Derived.Test.YtpdjkclacbgneaaGreatVPure
import Derived.KernelRfl
import Derived.Test.YtpdjkclacbgneaaGreatKPure
import Derived.Test.YtpdjkclacbgneaaGreatVAlZ
set_option linter.unusedVariables false
set_option linter.unusedSimpArgs false
namespace Go.Proofs.YtpdjkclacbgneaaGreat.Pl
open Go.Proofs.YtpdjkclacbgneaaGreatW.PrintWords

def mtC (code : List In) : Mt := ⟨nmain, [], ⟨0, nil⟩, 3, 3, code, []⟩
def clC (code : List In) : Cl := ⟨nMain, nil, [], [], [mtC code]⟩
def pgC (code : List In) : Pg := ⟨(hier [(nMain, nil)]).2, [(nObject, cObject), (nFault, cFault), (nMain, clC code)]⟩
def inH (b : Bool) : In := if b then ⟨3, 0⟩ else ⟨6, 0⟩
def codeH (l : List Bool) : List In := l.map inH ++ [⟨33, 0⟩]
def L0 : List Ty := [refT nMain, kindT 6, kindT 6]
def stH (h : Nat) : St := ⟨true, L0, List.replicate h (kindT 5)⟩
def goodH : Nat → List Bool → Bool
  | _, [] => true
  | h, true :: r => decide (h < 3) && goodH (h + 1) r
  | h, false :: r => decide (0 < h) && goodH (h - 1) r
def stsH : Nat → List Bool → List St
  | h, [] => [stH h]
  | h, true :: r => stH h :: stsH (h + 1) r
  | h, false :: r => stH h :: stsH (h - 1) r
theorem link_lin (code : List In) (h : check (clC code) = 0) : link [clC code] = (0, pgC code) := by
  have h1 : firstOf check [clC code] = 0 := by rw [firstOf, if_pos h]; rfl
  have h2 : hier ([clC code].map fun c => (c.name, c.super)) = (0, (hier [(nMain, nil)]).2) := by show hier [(nMain, nil)] = _; decide +kernel
  unfold link
  rw [if_neg (by rw [h1]; decide), h2]
  have h3 : progOf (hier [(nMain, nil)]).2 [clC code] = pgC code := by kernel_rfl
  have h4 : firstOf (members (pgC code)) [clC code] = 0 := by kernel_rfl
  have h5 : firstOf (fun c => firstOf (pool1 (pgC code)) c.pool) [clC code] = 0 := by kernel_rfl
  have h6 : meth (pgC code) nMain nmain = (nMain, mtC code, true) := by kernel_rfl
  simp only [h3, h4, h5, h6]
  rfl
theorem check_lin (code : List In) (h : body (clC code) (mtC code) = 0) : check (clC code) = 0 := by
  have h1 : method (clC code) [] (mtC code) = body (clC code) (mtC code) := by kernel_rfl
  have h2 : check (clC code) = firstOn (method (clC code)) [] [mtC code] := by kernel_rfl
  rw [h2, firstOn, if_pos (h1.trans h)]
  rfl
theorem firstOf_all {α : Type} {f : α → Int} : ∀ {l : List α}, (∀ x, x ∈ l → f x = 0) → firstOf f l = 0
  | [], _ => rfl
  | x :: r, h => by
    rw [firstOf, if_pos (h x List.mem_cons_self)]
    exact firstOf_all fun y hy => h y (List.mem_cons_of_mem _ hy)
theorem in_codeH {l : List Bool} {x : In} (h : x ∈ codeH l) : x = ⟨3, 0⟩ ∨ x = ⟨6, 0⟩ ∨ x = ⟨33, 0⟩ := by
  unfold codeH at h
  rcases List.mem_append.1 h with h | h
  · obtain ⟨b, _, rfl⟩ := List.mem_map.1 h
    cases b
    · exact .inr (.inl rfl)
    · exact .inl rfl
  · exact .inr (.inr (List.mem_singleton.1 h))
theorem codeH_len (l : List Bool) : (codeH l).length = l.length + 1 := by simp [codeH]
theorem body_lin {l : List Bool} (hl : l.length ≤ 100) : body (clC (codeH l)) (mtC (codeH l)) = 0 := by
  have hlen := codeH_len l
  have h1 : firstOf (ins (clC (codeH l)) (mtC (codeH l))) (codeH l) = 0 := firstOf_all fun x hx => by
    rcases in_codeH hx with rfl | rfl | rfl <;> rfl
  have h2 : (codeH l).getD ((codeH l).length - 1) default = ⟨33, 0⟩ := by
    rw [hlen, List.getD_eq_getElem?_getD, codeH, List.getElem?_append_right (by simp)]
    simp
  unfold body
  rw [if_neg (by show ¬ ((codeH l).length < 1 ∨ 200 < (codeH l).length); omega), if_neg (by show ¬ firstOf _ (codeH l) ≠ 0; rw [h1]; decide), if_neg (by show ¬ stops ((codeH l).getD ((codeH l).length - 1) default).op = false; rw [h2]; decide), if_neg (by show ¬ (16 < 0); decide)]
  rfl
theorem link_H {l : List Bool} (hl : l.length ≤ 100) : link [clC (codeH l)] = (0, pgC (codeH l)) := link_lin _ (check_lin _ (body_lin hl))
section
variable {p : Pg} {c : Cl} {code : List In} {l : List St} {ch : Bool} {j h : Nat}
theorem goes_null (hi : code.getD j default = ⟨3, 0⟩) (hs : l.getD j default = stH h) : goes p c (mtC code) l ch j = if 3 ≤ h then ⟨81, l, ch⟩ else joins p 3 l ch (j + 1) (stH (h + 1)) := by
  have hr : does p c 0 ⟨L0, List.replicate h (kindT 5), 0⟩ ⟨3, 0⟩ = ⟨L0, List.replicate (h + 1) (kindT 5), 0⟩ := by
    show push ⟨L0, List.replicate h (kindT 5), 0⟩ (kindT 5) = _
    rw [push, List.replicate_succ']
  unfold goes
  show (let i := code.getD j default; _) = _
  simp only [show (mtC code).code = code from rfl, hi, hs]
  simp only [show (mtC code).ret.kind = 0 from rfl, show (stH h).locals = L0 from rfl, show (stH h).stack = List.replicate h (kindT 5) from rfl, hr, show (mtC code).stack = 3 from rfl, List.length_replicate]
  by_cases h3 : 3 ≤ h
  · rw [if_neg (by decide), if_pos (by omega), if_pos h3]
  · rw [if_neg (by decide), if_neg (by omega), if_neg h3]
    rfl
theorem goes_pop (h3 : h ≤ 3) (hi : code.getD j default = ⟨6, 0⟩) (hs : l.getD j default = stH h) : goes p c (mtC code) l ch j = if h = 0 then ⟨81, l, ch⟩ else joins p 3 l ch (j + 1) (stH (h - 1)) := by
  have hr : does p c 0 ⟨L0, List.replicate h (kindT 5), 0⟩ ⟨6, 0⟩ = if h = 0 then ⟨L0, [], 81⟩ else ⟨L0, List.replicate (h - 1) (kindT 5), 0⟩ := by
    show popR ⟨L0, List.replicate h (kindT 5), 0⟩ = _
    unfold popR
    simp only [List.length_replicate]
    by_cases h0 : h = 0
    · subst h0; rfl
    · rw [if_neg h0, if_neg h0, List.take_replicate, Nat.min_eq_left (by omega)]
  unfold goes
  simp only [show (mtC code).code = code from rfl, hi, hs]
  simp only [show (mtC code).ret.kind = 0 from rfl, show (stH h).locals = L0 from rfl, show (stH h).stack = List.replicate h (kindT 5) from rfl, hr, show (mtC code).stack = 3 from rfl]
  by_cases h0 : h = 0
  · simp only [h0, if_true]
    rw [if_pos (by decide)]
  · simp only [if_neg h0, List.length_replicate]
    rw [if_neg (by decide), if_neg (by omega)]
    rfl
theorem goes_ret (h3 : h ≤ 3) (hi : code.getD j default = ⟨33, 0⟩) (hs : l.getD j default = stH h) : goes p c (mtC code) l ch j = ⟨0, l, ch⟩ := by
  unfold goes
  simp only [show (mtC code).code = code from rfl, hi, hs]
  simp only [show (mtC code).ret.kind = 0 from rfl, show (stH h).locals = L0 from rfl, show (stH h).stack = List.replicate h (kindT 5) from rfl, show does p c 0 ⟨L0, List.replicate h (kindT 5), 0⟩ ⟨33, 0⟩ = ⟨L0, List.replicate h (kindT 5), 0⟩ from rfl, show (mtC code).stack = 3 from rfl, List.length_replicate]
  rw [if_neg (by decide), if_neg (by omega)]
  rfl
theorem joins_first (h3 : h ≤ 3) (hs : l.getD j default = default) : joins p 3 l ch j (stH h) = ⟨0, l.set j (stH h), true⟩ := by
  unfold joins
  simp only [hs, show (stH h).stack = List.replicate h (kindT 5) from rfl, List.length_replicate]
  rw [if_neg (by omega)]
  rfl
theorem mergeL_same (p : Pg) : ∀ l : List Ty, mergeL p l l = l
  | [] => rfl
  | t :: r => by rw [mergeL, mergeL_same p r, merge, if_pos rfl]
theorem joins_same (h3 : h ≤ 3) (hs : l.getD j default = stH h) : joins p 3 l ch j (stH h) = ⟨0, l.set j (stH h), ch⟩ := by
  unfold joins
  simp only [hs, mergeL_same]
  rw [if_neg (by show ¬ ((3 : Int) < ((List.replicate h (kindT 5)).length : Int)); rw [List.length_replicate]; omega), if_neg (by show ¬ (true = false); decide), if_neg (by simp), if_neg]
  · simp
  · show ¬ (List.replicate h (kindT 5)).any _ = true
    rw [List.any_replicate]
    split <;> simp [kindT]
end
theorem getD_app {α : Type} [Inhabited α] (A : List α) (x : α) (B : List α) {j : Nat} (hj : A.length = j) : (A ++ x :: B).getD j default = x := by
  subst hj
  simp [List.getD_eq_getElem?_getD]
theorem set_app {α : Type} (A : List α) (x y : α) (B : List α) {j : Nat} (hj : A.length = j) : (A ++ x :: B).set j y = A ++ y :: B := by
  subst hj
  simp
theorem code_step {code : List In} {j : Nat} {x : In} {r : List In} (h : code.drop j = x :: r) : code.getD j default = x ∧ code.drop (j + 1) = r := by
  have h1 : code[j]? = some x := by
    have := congrArg (fun l => l[0]?) h
    simpa using this
  refine ⟨by rw [List.getD_eq_getElem?_getD, h1]; rfl, ?_⟩
  rw [← List.drop_drop, h]
  rfl
theorem pass_cons {p : Pg} {c : Cl} {m : Mt} {n pc h : Nat} {l : List St} {ch : Bool} (hs : l.getD pc default = stH h) : pass p c m (n + 1) pc l ch = if (goes p c m l ch pc).e ≠ 0 then goes p c m l ch pc else pass p c m n (pc + 1) (goes p c m l ch pc).l (goes p c m l ch pc).changed := by
  rw [pass, hs]
  rfl
theorem pass_one (p : Pg) (c : Cl) (code : List In) : ∀ (r : List Bool) (j h : Nat) (A : List St) (ch : Bool), A.length = j → h ≤ 3 → code.drop j = codeH r →
    (goodH h r = true → pass p c (mtC code) (r.length + 1) j (A ++ stH h :: List.replicate r.length default) ch = ⟨0, A ++ stsH h r, ch || decide (0 < r.length)⟩) ∧ (goodH h r = false → (pass p c (mtC code) (r.length + 1) j (A ++ stH h :: List.replicate r.length default) ch).e = 81)
  | [], j, h, A, ch, hA, h3, hc => by
    obtain ⟨hi, _⟩ := code_step (show code.drop j = ⟨33, 0⟩ :: [] from hc)
    have hs : (A ++ stH h :: List.replicate ([] : List Bool).length (default : St)).getD j default = stH h := getD_app _ _ _ hA
    rw [pass_cons hs, goes_ret h3 hi hs]
    refine ⟨fun _ => ?_, fun hg => by cases hg⟩
    rw [if_neg (by show ¬ ((0 : Int) ≠ 0); decide)]
    show (⟨0, _, ch⟩ : Fl) = _
    simp [stsH]
  | true :: r, j, h, A, ch, hA, h3, hc => by
    obtain ⟨hi, hc1⟩ := code_step (show code.drop j = ⟨3, 0⟩ :: codeH r from hc)
    have hs : (A ++ stH h :: List.replicate (true :: r).length (default : St)).getD j default = stH h := getD_app _ _ _ hA
    rw [pass_cons hs, goes_null hi hs]
    by_cases hh : 3 ≤ h
    · rw [if_pos hh]
      refine ⟨fun hg => ?_, fun _ => ?_⟩
      · have : decide (h < 3) = false := by simp; omega
        rw [goodH, this] at hg
        cases hg
      · rw [if_pos (by show (81 : Int) ≠ 0; decide)]
    · rw [if_neg hh]
      have e1 : A ++ stH h :: List.replicate (true :: r).length (default : St) = (A ++ [stH h]) ++ default :: List.replicate r.length default := by simp [List.replicate_succ]
      have hs2 : ((A ++ [stH h]) ++ (default : St) :: List.replicate r.length default).getD (j + 1) default = default := getD_app _ _ _ (by simp [hA])
      rw [e1, joins_first (by omega) hs2, set_app _ _ _ _ (by simp [hA])]
      have ih := pass_one p c code r (j + 1) (h + 1) (A ++ [stH h]) true (by simp [hA]) (by omega) hc1
      rw [if_neg (by show ¬ ((0 : Int) ≠ 0); decide)]
      have hg : goodH h (true :: r) = goodH (h + 1) r := by
        rw [goodH, decide_eq_true (by omega : h < 3), Bool.true_and]
      rw [hg]
      refine ⟨fun h1 => ?_, ih.2⟩
      refine (ih.1 h1).trans ?_
      simp [stsH]
  | false :: r, j, h, A, ch, hA, h3, hc => by
    obtain ⟨hi, hc1⟩ := code_step (show code.drop j = ⟨6, 0⟩ :: codeH r from hc)
    have hs : (A ++ stH h :: List.replicate (false :: r).length (default : St)).getD j default = stH h := getD_app _ _ _ hA
    rw [pass_cons hs, goes_pop h3 hi hs]
    by_cases hh : h = 0
    · rw [if_pos hh]
      refine ⟨fun hg => ?_, fun _ => ?_⟩
      · rw [goodH, hh] at hg
        cases hg
      · rw [if_pos (by show (81 : Int) ≠ 0; decide)]
    · rw [if_neg hh]
      have e1 : A ++ stH h :: List.replicate (false :: r).length (default : St) = (A ++ [stH h]) ++ default :: List.replicate r.length default := by simp [List.replicate_succ]
      have hs2 : ((A ++ [stH h]) ++ (default : St) :: List.replicate r.length default).getD (j + 1) default = default := getD_app _ _ _ (by simp [hA])
      rw [e1, joins_first (by omega) hs2, set_app _ _ _ _ (by simp [hA])]
      have ih := pass_one p c code r (j + 1) (h - 1) (A ++ [stH h]) true (by simp [hA]) (by omega) hc1
      rw [if_neg (by show ¬ ((0 : Int) ≠ 0); decide)]
      have hg : goodH h (false :: r) = goodH (h - 1) r := by
        rw [goodH, decide_eq_true (by omega : 0 < h), Bool.true_and]
      rw [hg]
      refine ⟨fun h1 => ?_, ih.2⟩
      refine (ih.1 h1).trans ?_
      simp [stsH]
theorem stsH_len : ∀ (h : Nat) (r : List Bool), (stsH h r).length = r.length + 1
  | h, [] => rfl
  | h, true :: r => by rw [stsH, List.length_cons, stsH_len, List.length_cons]
  | h, false :: r => by rw [stsH, List.length_cons, stsH_len, List.length_cons]
theorem stsH_head (A : List St) (h : Nat) (r : List Bool) {j : Nat} (hj : A.length = j) : (A ++ stsH h r).getD j default = stH h := by
  rcases r with _ | ⟨_ | _, r⟩ <;> exact getD_app _ _ _ hj
theorem set_same {l : List St} {j : Nat} {s : St} (h : l.getD j default = s) (hj : j < l.length) : l.set j s = l := by
  rw [List.getD_eq_getElem?_getD, List.getElem?_eq_getElem hj, Option.getD_some] at h
  subst h
  exact List.set_getElem_self hj
theorem pass_two (p : Pg) (c : Cl) (code : List In) : ∀ (r : List Bool) (j h : Nat) (A : List St) (ch : Bool), A.length = j → h ≤ 3 → code.drop j = codeH r → goodH h r = true → pass p c (mtC code) (r.length + 1) j (A ++ stsH h r) ch = ⟨0, A ++ stsH h r, ch⟩
  | [], j, h, A, ch, hA, h3, hc, _ => by
    obtain ⟨hi, _⟩ := code_step (show code.drop j = ⟨33, 0⟩ :: [] from hc)
    have hs : (A ++ stsH h []).getD j default = stH h := getD_app _ _ _ hA
    rw [pass_cons hs, goes_ret h3 hi hs]
    rw [if_neg (by show ¬ ((0 : Int) ≠ 0); decide)]
    rfl
  | true :: r, j, h, A, ch, hA, h3, hc, hg => by
    obtain ⟨hi, hc1⟩ := code_step (show code.drop j = ⟨3, 0⟩ :: codeH r from hc)
    have hs : (A ++ stsH h (true :: r)).getD j default = stH h := getD_app _ _ _ hA
    rw [goodH, Bool.and_eq_true, decide_eq_true_eq] at hg
    rw [pass_cons hs, goes_null hi hs, if_neg (show ¬ 3 ≤ h by omega)]
    have e1 : A ++ stsH h (true :: r) = (A ++ [stH h]) ++ stsH (h + 1) r := by simp [stsH]
    have hs2 : ((A ++ [stH h]) ++ stsH (h + 1) r).getD (j + 1) default = stH (h + 1) := stsH_head _ _ _ (by simp [hA])
    rw [e1, joins_same (by omega) hs2, set_same hs2 (by have := stsH_len (h + 1) r; simp [hA]; omega)]
    rw [if_neg (by show ¬ ((0 : Int) ≠ 0); decide)]
    exact pass_two p c code r (j + 1) (h + 1) (A ++ [stH h]) ch (by simp [hA]) (by omega) hc1 hg.2
  | false :: r, j, h, A, ch, hA, h3, hc, hg => by
    obtain ⟨hi, hc1⟩ := code_step (show code.drop j = ⟨6, 0⟩ :: codeH r from hc)
    have hs : (A ++ stsH h (false :: r)).getD j default = stH h := getD_app _ _ _ hA
    rw [goodH, Bool.and_eq_true, decide_eq_true_eq] at hg
    rw [pass_cons hs, goes_pop h3 hi hs, if_neg (show ¬ h = 0 by omega)]
    have e1 : A ++ stsH h (false :: r) = (A ++ [stH h]) ++ stsH (h - 1) r := by simp [stsH]
    have hs2 : ((A ++ [stH h]) ++ stsH (h - 1) r).getD (j + 1) default = stH (h - 1) := stsH_head _ _ _ (by simp [hA])
    rw [e1, joins_same (by omega) hs2, set_same hs2 (by have := stsH_len (h - 1) r; simp [hA]; omega)]
    rw [if_neg (by show ¬ ((0 : Int) ≠ 0); decide)]
    exact pass_two p c code r (j + 1) (h - 1) (A ++ [stH h]) ch (by simp [hA]) (by omega) hc1 hg.2
theorem vstart_H (l : List Bool) (p : Pg) : vstart p nMain (mtC (codeH l)) = stH 0 :: List.replicate l.length default := by
  have he : entry nMain (mtC (codeH l)) = stH 0 := by rfl
  have hl : (mtC (codeH l)).code.length = l.length + 1 := codeH_len l
  unfold vstart
  rw [he, hl, show (mtC (codeH l)).stack = 3 from rfl, joins_first (Nat.zero_le 3) (by rw [List.replicate_succ]; rfl), List.replicate_succ]
  rfl
theorem passes_H (l : List Bool) (p : Pg) (c : Cl) : ∃ e L, passes p c (mtC (codeH l)) 100 (vstart p nMain (mtC (codeH l))) = some (e, L) ∧ (e = 0 ↔ goodH 0 l = true) := by
  obtain ⟨h1, h2⟩ := pass_one p c (codeH l) l 0 0 [] false rfl (Nat.zero_le 3) rfl
  rw [vstart_H]
  rw [List.nil_append] at h1 h2
  rcases hg : goodH 0 l with _ | _
  · have h3 := h2 hg
    refine ⟨81, [], ?_, by simp⟩
    rw [passes, show (mtC (codeH l)).code.length = l.length + 1 from codeH_len l]
    simp only [h3]
    rfl
  · have h3 := h1 hg
    rw [List.nil_append, Bool.false_or] at h3
    refine ⟨0, stsH 0 l, ?_, by simp⟩
    rw [passes, show (mtC (codeH l)).code.length = l.length + 1 from codeH_len l, h3]
    show (if decide (0 < l.length) then passes p c (mtC (codeH l)) 99 (stsH 0 l) else some (0, stsH 0 l)) = _
    by_cases h0 : 0 < l.length
    · rw [if_pos (by simpa using h0), passes, show (mtC (codeH l)).code.length = l.length + 1 from codeH_len l]
      have h4 := pass_two p c (codeH l) l 0 0 [] false rfl (Nat.zero_le 3) rfl hg
      rw [List.nil_append] at h4
      rw [h4]
      rfl
    · rw [if_neg (by simpa using h0)]
theorem vall_H (l : List Bool) : ∃ e, vall (pgC (codeH l)) 100 = some e ∧ (e = 0 ↔ goodH 0 l = true) := by
  obtain ⟨e, L, h1, h2⟩ := passes_H l (pgC (codeH l)) (clC (codeH l))
  refine ⟨e, ?_, h2⟩
  have hc : clsOf (pgC (codeH l)) nMain = clC (codeH l) := by kernel_rfl
  have hm : vmethod (pgC (codeH l)) 100 nMain nmain = some (e, L) := by
    unfold vmethod
    rw [hc, show (clC (codeH l)).methods.find? (fun m => decide (m.name = nmain)) = some (mtC (codeH l)) by kernel_rfl]
    exact h1
  have hn : (pgC (codeH l)).h.map (·.1) = [nObject, nFault, nMain] := by kernel_rfl
  have ho : (clsOf (pgC (codeH l)) nObject).methods = [] := by kernel_rfl
  have hf : (clsOf (pgC (codeH l)) nFault).methods = [] := by kernel_rfl
  have hM : vallM (pgC (codeH l)) 100 nMain (clsOf (pgC (codeH l)) nMain).methods = some e := by
    rw [hc]
    show vallM (pgC (codeH l)) 100 nMain [mtC (codeH l)] = some e
    rw [vallM, show (mtC (codeH l)).name = nmain from rfl, hm]
    by_cases h0 : e = 0
    · simp [h0, vallM]
    · simp [h0]
  unfold vall
  rw [hn, vallN, ho]
  simp only [vallM]
  rw [if_neg (by decide), vallN, hf]
  simp only [vallM]
  rw [if_neg (by decide), vallN, hM]
  by_cases h0 : e = 0
  · simp [h0, vallN]
  · simp [h0]
end Go.Proofs.YtpdjkclacbgneaaGreat.Pl
namespace Go.Proofs.YtpdjkclacbgneaaGreat.Pl
open Go.Proofs.YtpdjkclacbgneaaGreatW.PrintWords

section
variable (p : Pg) (c : Cl) (m : Mt)
def nxt (s : St) (i : In) : Rn := does p c m.ret.kind ⟨s.locals, s.stack, 0⟩ i
def nxtS (s : St) (i : In) : St := ⟨true, (nxt p c m s i).locals, (nxt p c m s i).stack⟩
def seqS : St → List In → List St
  | _, [] => []
  | s, i :: r => s :: seqS (nxtS p c m s i) r
/-- Straight on, without an error; the last one stops. -/
def okS : St → List In → Bool
  | _, [] => false
  | s, i :: r => decide ((nxt p c m s i).e = 0) && decide (((nxt p c m s i).stack.length : Int) ≤ m.stack) && !jumps i.op &&
    (match r with
     | [] => stops i.op
     | _ :: _ => !stops i.op && !(nxt p c m s i).stack.any (fun t => decide (t.kind = 6)) && okS (nxtS p c m s i) r)
end
section
variable {p : Pg} {c : Cl} {m : Mt} {l : List St} {ch : Bool} {j : Nat} {s : St} {i : In}
theorem goes_lin (hi : m.code.getD j default = i) (hs : l.getD j default = s) (hr : s.reached = true) (h1 : (nxt p c m s i).e = 0) (h2 : ((nxt p c m s i).stack.length : Int) ≤ m.stack) (h3 : jumps i.op = false) : goes p c m l ch j = if stops i.op then ⟨0, l, ch⟩ else joins p m.stack l ch (j + 1) (nxtS p c m s i) := by
  unfold nxt at h1 h2
  unfold goes
  simp only [hi, hs, hr]
  rw [if_neg (by rw [h1]; decide), if_neg (by omega)]
  simp only [h3, if_false, Bool.false_eq_true, ne_eq, not_true_eq_false]
  rfl
theorem joins_new1 {most : Int} (h3 : (s.stack.length : Int) ≤ most) (hs : l.getD j default = default) : joins p most l ch j s = ⟨0, l.set j s, true⟩ := by
  unfold joins
  simp only [hs]
  rw [if_neg (by omega)]
  rfl
theorem joins_old1 {most : Int} (h3 : (s.stack.length : Int) ≤ most) (hs : l.getD j default = s) (hr : s.reached = true) (h6 : s.stack.any (fun t => decide (t.kind = 6)) = false) : joins p most l ch j s = ⟨0, l.set j s, ch⟩ := by
  unfold joins
  simp only [hs, mergeL_same]
  rw [if_neg (by omega), if_neg (by rw [hr]; decide), if_neg (by simp), if_neg (by rw [h6]; decide)]
  simp
theorem pass_one1 {n : Nat} (hs : l.getD j default = s) (hr : s.reached = true) : pass p c m (n + 1) j l ch = if (goes p c m l ch j).e ≠ 0 then goes p c m l ch j else pass p c m n (j + 1) (goes p c m l ch j).l (goes p c m l ch j).changed := by
  rw [pass, hs, if_neg (by rw [hr]; decide)]
theorem okS_end (h : okS p c m s [i] = true) : (nxt p c m s i).e = 0 ∧ ((nxt p c m s i).stack.length : Int) ≤ m.stack ∧ jumps i.op = false ∧ stops i.op = true := by
  unfold okS at h
  simpa [and_assoc] using h
theorem okS_more {k : In} {r : List In} (h : okS p c m s (i :: k :: r) = true) : (nxt p c m s i).e = 0 ∧ ((nxt p c m s i).stack.length : Int) ≤ m.stack ∧ jumps i.op = false ∧ stops i.op = false ∧ (nxt p c m s i).stack.any (fun t => decide (t.kind = 6)) = false ∧ okS p c m (nxtS p c m s i) (k :: r) = true := by
  rw [okS] at h
  simp only [Bool.and_eq_true, decide_eq_true_eq, Bool.not_eq_true', and_assoc] at h
  exact h
end
theorem pass_lin1 {p : Pg} {c : Cl} {m : Mt} : ∀ (r : List In) (i : In) (j : Nat) (s : St) (A : List St) (ch : Bool), A.length = j → s.reached = true → m.code.drop j = i :: r → okS p c m s (i :: r) = true →
    pass p c m (r.length + 1) j (A ++ s :: List.replicate r.length default) ch = ⟨0, A ++ seqS p c m s (i :: r), ch || decide (0 < r.length)⟩
  | [], i, j, s, A, ch, hA, hr, hc, hok => by
    obtain ⟨h1, h2, h3, h4⟩ := okS_end hok
    obtain ⟨hi, _⟩ := code_step hc
    have hs : (A ++ s :: List.replicate ([] : List In).length (default : St)).getD j default = s := getD_app _ _ _ hA
    rw [pass_one1 hs hr, goes_lin hi hs hr h1 h2 h3, if_pos h4, if_neg (by show ¬ ((0 : Int) ≠ 0); decide)]
    show (⟨0, _, ch⟩ : Fl) = _
    simp [seqS]
  | k :: r, i, j, s, A, ch, hA, hr, hc, hok => by
    obtain ⟨h1, h2, h3, h4, h5, h6⟩ := okS_more hok
    obtain ⟨hi, hc1⟩ := code_step hc
    have hs : (A ++ s :: List.replicate (k :: r).length (default : St)).getD j default = s := getD_app _ _ _ hA
    have e1 : A ++ s :: List.replicate (k :: r).length (default : St) = (A ++ [s]) ++ default :: List.replicate r.length default := by simp [List.replicate_succ]
    have hs2 : ((A ++ [s]) ++ (default : St) :: List.replicate r.length default).getD (j + 1) default = default := getD_app _ _ _ (by simp [hA])
    rw [pass_one1 hs hr, goes_lin hi hs hr h1 h2 h3]
    simp only [h4, Bool.false_eq_true, if_false]
    rw [e1, joins_new1 h2 hs2, set_app _ _ _ _ (by simp [hA])]
    rw [if_neg (by show ¬ ((0 : Int) ≠ 0); decide)]
    refine (pass_lin1 r k (j + 1) (nxtS p c m s i) (A ++ [s]) true (by simp [hA]) rfl hc1 h6).trans ?_
    simp [seqS]
theorem seqS_head {p : Pg} {c : Cl} {m : Mt} (A : List St) (s : St) (i : In) (r : List In) {j : Nat} (hj : A.length = j) : (A ++ seqS p c m s (i :: r)).getD j default = s := by
  rw [seqS]
  exact getD_app _ _ _ hj
theorem seqS_len {p : Pg} {c : Cl} {m : Mt} : ∀ (r : List In) (s : St), (seqS p c m s r).length = r.length
  | [], s => rfl
  | i :: r, s => by rw [seqS, List.length_cons, seqS_len r, List.length_cons]
theorem pass_lin2 {p : Pg} {c : Cl} {m : Mt} : ∀ (r : List In) (i : In) (j : Nat) (s : St) (A : List St) (ch : Bool), A.length = j → s.reached = true → m.code.drop j = i :: r → okS p c m s (i :: r) = true →
    pass p c m (r.length + 1) j (A ++ seqS p c m s (i :: r)) ch = ⟨0, A ++ seqS p c m s (i :: r), ch⟩
  | [], i, j, s, A, ch, hA, hr, hc, hok => by
    obtain ⟨h1, h2, h3, h4⟩ := okS_end hok
    obtain ⟨hi, _⟩ := code_step hc
    have hs : (A ++ seqS p c m s [i]).getD j default = s := seqS_head _ _ _ _ hA
    rw [pass_one1 hs hr, goes_lin hi hs hr h1 h2 h3, if_pos h4, if_neg (by show ¬ ((0 : Int) ≠ 0); decide)]
    rfl
  | k :: r, i, j, s, A, ch, hA, hr, hc, hok => by
    obtain ⟨h1, h2, h3, h4, h5, h6⟩ := okS_more hok
    obtain ⟨hi, hc1⟩ := code_step hc
    have hs : (A ++ seqS p c m s (i :: k :: r)).getD j default = s := seqS_head _ _ _ _ hA
    have e1 : A ++ seqS p c m s (i :: k :: r) = (A ++ [s]) ++ seqS p c m (nxtS p c m s i) (k :: r) := by rw [seqS]; simp
    have hs2 : ((A ++ [s]) ++ seqS p c m (nxtS p c m s i) (k :: r)).getD (j + 1) default = nxtS p c m s i := seqS_head _ _ _ _ (by simp [hA])
    rw [pass_one1 hs hr, goes_lin hi hs hr h1 h2 h3]
    simp only [h4, Bool.false_eq_true, if_false]
    rw [e1, joins_old1 h2 hs2 rfl h5, set_same hs2 (by have := seqS_len (p := p) (c := c) (m := m) (k :: r) (nxtS p c m s i); simp [hA]; simp at this; omega)]
    rw [if_neg (by show ¬ ((0 : Int) ≠ 0); decide)]
    exact pass_lin2 r k (j + 1) (nxtS p c m s i) (A ++ [s]) ch (by simp [hA]) rfl hc1 h6
theorem passes_lin {p : Pg} {c : Cl} {m : Mt} {cls : Nm} {i : In} {r : List In} (hc : m.code = i :: r) (hm : 0 ≤ m.stack) (hok : okS p c m (entry cls m) (i :: r) = true) : passes p c m 100 (vstart p cls m) = some (0, seqS p c m (entry cls m) (i :: r)) := by
  have hl : m.code.length = r.length + 1 := by rw [hc]; rfl
  have hs : vstart p cls m = entry cls m :: List.replicate r.length default := by
    unfold vstart
    rw [hl, joins_new1 (by show ((0 : Nat) : Int) ≤ m.stack; omega) (by rw [List.replicate_succ]; rfl), List.replicate_succ]
    rfl
  have h1 := pass_lin1 (p := p) (c := c) (m := m) r i 0 (entry cls m) [] false rfl rfl (by rw [hc]; rfl) hok
  have h2 := pass_lin2 (p := p) (c := c) (m := m) r i 0 (entry cls m) [] false rfl rfl (by rw [hc]; rfl) hok
  rw [List.nil_append, List.nil_append, Bool.false_or] at h1
  rw [List.nil_append] at h2
  rw [hs, passes, hl]
  simp only [h1]
  rw [if_neg (by decide)]
  by_cases h0 : 0 < r.length
  · rw [if_pos (by simpa using h0), passes, hl]
    simp only [h2]
    rw [if_neg (by decide), if_neg (by decide)]
  · rw [if_neg (by simpa using h0)]
/-! ### the locks -/
def lseq : List In → List Int → Int
  | [], _ => 0
  | i :: r, ls => if (behind i ls).2 ≠ 0 then (behind i ls).2 else if stops i.op then 0 else lseq r (behind i ls).1
theorem lruns_lin {m : Mt} : ∀ (r : List In) (i : In) (j k : Nat) (s : Wk) (ls : List Int), m.code.drop j = i :: r → s.todo = [(j : Int)] → j < s.locks.length → s.locks.getD j [] = ls → s.met.length = s.locks.length → (∀ x, j < x → s.met.getD x false = false) → j + r.length < s.locks.length →
    (∀ x, x ∈ i :: r → jumps x.op = false) → stops ((i :: r).getLast (List.cons_ne_nil i r)).op = true → ∃ L, lruns m (r.length + 2 + k) s = some (lseq (i :: r) ls, L)
  | r, i, j, k, s, ls, hc, ht, hj, hls, hm1, hm2, hlen, hju, hst => by
    obtain ⟨hi, hc1⟩ := code_step hc
    have hji := hju i List.mem_cons_self
    have h1 : s.todo.length = 1 := by rw [ht]; rfl
    have h2 : (s.todo.getD (s.todo.length - 1) 0).toNat = j := by rw [ht]; simp
    have h3 : s.todo.take (s.todo.length - 1) = [] := by rw [ht]; rfl
    rw [show r.length + 2 + k = (r.length + 1 + k) + 1 by omega, lruns, if_neg (by omega), h2, h3]
    have hg : lgoes m ⟨s.locks, s.met, []⟩ j = if (behind i ls).2 ≠ 0 then ((behind i ls).2, ⟨s.locks, s.met, []⟩) else if stops i.op then (0, ⟨s.locks, s.met, []⟩) else lcomes ⟨s.locks, s.met, []⟩ (j + 1) (behind i ls).1 := by
      unfold lgoes
      simp only [hi, hls, hji, if_false, Bool.false_eq_true, ne_eq, not_true_eq_false]
    have hq : lseq (i :: r) ls = if (behind i ls).2 ≠ 0 then (behind i ls).2 else if stops i.op then 0 else lseq r (behind i ls).1 := rfl
    by_cases hb : (behind i ls).2 = 0
    · rw [if_neg (by rw [hb]; decide)] at hg hq
      by_cases hs : stops i.op = true
      · rw [if_pos hs] at hg hq
        rw [hq]
        simp only [hg, ne_eq, not_true_eq_false, if_false]
        rw [show r.length + 1 + k = (r.length + k) + 1 by omega, lruns]
        exact ⟨_, rfl⟩
      · rw [if_neg hs] at hg hq
        rw [hq]
        cases r with
        | nil => exact absurd hst hs
        | cons i2 r =>
          have hlc : lcomes ⟨s.locks, s.met, []⟩ (j + 1) (behind i ls).1 = (0, ⟨s.locks.set (j + 1) (behind i ls).1, s.met.set (j + 1) true, [((j + 1 : Nat) : Int)]⟩) := by
            unfold lcomes
            rw [if_neg (by rw [hm2 (j + 1) (Nat.lt_succ_self j)]; decide)]
            rfl
          rw [hlc] at hg
          simp only [hg, ne_eq, not_true_eq_false, if_false]
          simp only [List.length_cons] at hlen
          have hjl : j + 1 < s.locks.length := by omega
          rw [List.length_cons, show r.length + 1 + 1 + k = r.length + 2 + k by omega]
          refine lruns_lin r i2 (j + 1) k ⟨s.locks.set (j + 1) (behind i ls).1, s.met.set (j + 1) true, [((j + 1 : Nat) : Int)]⟩ (behind i ls).1 hc1 rfl (by simp; omega) ?_ (by simp [hm1]) (fun x hx => ?_) (by simp; omega) (fun x hx => hju x (List.mem_cons_of_mem _ hx)) (by rw [List.getLast_cons (List.cons_ne_nil i2 r)] at hst; exact hst)
          · show (s.locks.set (j + 1) (behind i ls).1).getD (j + 1) [] = _
            rw [List.getD_eq_getElem?_getD, List.getElem?_set_self hjl]; rfl
          · show (s.met.set (j + 1) true).getD x false = false
            rw [List.getD_eq_getElem?_getD, List.getElem?_set_ne (by omega), ← List.getD_eq_getElem?_getD]
            exact hm2 x (by omega)
    · rw [if_pos hb] at hg hq
      rw [hq]
      simp only [hg]
      rw [if_pos hb]
      exact ⟨_, rfl⟩
theorem lstart_lin {m : Mt} {i : In} {r : List In} (hc : m.code = i :: r) (hr : r.length ≤ 90) (hju : ∀ x, x ∈ i :: r → jumps x.op = false) (hst : stops ((i :: r).getLast (List.cons_ne_nil i r)).op = true) : ∃ L, lruns m 100 (lstart m.code.length) = some (lseq (i :: r) [], L) := by
  have hl : m.code.length = r.length + 1 := by rw [hc]; rfl
  have hs : lstart (r.length + 1) = ⟨(List.replicate (r.length + 1) []).set 0 [], (List.replicate (r.length + 1) false).set 0 true, [((0 : Nat) : Int)]⟩ := by
    unfold lstart lcomes
    rw [if_neg]
    · rfl
    · rw [List.replicate_succ]
      show ¬ (false = true)
      decide
  obtain ⟨L, h⟩ := lruns_lin (m := m) r i 0 (98 - r.length) (lstart (r.length + 1)) [] (by rw [hc]; rfl) (by rw [hs]) (by rw [hs]; simp) (by rw [hs]; simp [List.replicate_succ]) (by rw [hs]; simp) (fun x hx => by
    rw [hs]
    simp only
    rw [List.getD_eq_getElem?_getD, List.getElem?_set_ne (by omega), List.getElem?_replicate]
    split <;> rfl) (by rw [hs]; simp) hju hst
  rw [hl]
  exact ⟨L, by rw [show (100 : Nat) = r.length + 2 + (98 - r.length) by omega]; exact h⟩
end Go.Proofs.YtpdjkclacbgneaaGreat.Pl
namespace Go.Proofs.YtpdjkclacbgneaaGreat
open Go.RowKit Go.Shelf Go.Proofs.YtpdjkclacbgneaaGreatW.PrintWords Go.Proofs.YtpdjkclacbgneaaGreat.Pl

def fli (l : List In) : List Value := l.flatMap inCs
def OwnIn (B : Nat) (w : World) (v : Value) (l : List In) : Prop := w.ownsRow B 29 2 v l.length (fli l)
theorem fli_len (l : List In) : (fli l).length = l.length * 2 := by
  induction l with
  | nil => rfl
  | cons a r ih => rw [fli, List.flatMap_cons, List.length_append]; rw [fli] at ih; rw [ih]; simp [inCs]; omega
theorem fli_app (l m : List In) : fli (l ++ m) = fli l ++ fli m := by simp [fli]
theorem OwnIn.below {B : Nat} {w w1 : World} {v : Value} {l : List In} (h : OwnIn B w v l) (hb : Below w.heap.size w w1) : OwnIn B w1 v l := pw_own_below h hb
theorem fli_at : ∀ (l : List In) (j : Nat) (t : In), l[j]? = some t → ((fli l).drop (j * 2)).take 2 = inCs t
  | [], j, t, h => by simp at h
  | a :: r, 0, t, h => by
    rw [List.getElem?_cons_zero] at h
    cases h
    simp [fli, inCs]
  | a :: r, j + 1, t, h => by
    rw [List.getElem?_cons_succ] at h
    have := fli_at r j t h
    rw [fli] at this ⊢
    rw [List.flatMap_cons, show (j + 1) * 2 = (inCs a).length + j * 2 by simp [inCs]; omega, List.drop_length_add_append]
    exact this
theorem inK_cs (w : World) (t : In) : inK.K w t (inCs t) := ⟨[.int .i64 t.op], [.int .i64 t.a], rfl, rfl, rfl⟩
theorem OwnIn.reads {B : Nat} {w : World} {v : Value} {l : List In} (h : OwnIn B w v l) : ∃ A c, v = .slice A l.length c ∧ l.length ≤ c ∧ inK.C w A l.length l := by
  obtain ⟨A, c, hv, hr⟩ := own_reads_row (R := inK.K w) (ps := l) h ⟨fli_len l, fun j p hj => by rw [fli_at l j p hj]; exact inK_cs w p⟩ rfl
  refine ⟨A, c, hv, ?_, hr⟩
  subst hv
  exact own_le h
theorem inInfo : (Tryz.prog.info? 29).map (fun i => (i.zero, i.size, i.bytes)) = some (some (.agg #[.int .i64 0, .int .i64 0]), 2, 16) := by kernel_rfl
theorem app_in {B : Nat} {W : World} {v : Value} {l : List In} {t : In} {bx : Nat} (ty : TypeId) (h : OwnIn B W v l) (hB : B ≤ W.heap.size) (hbx : W.heap[bx]? = some (.cells #[.int .i64 t.op, .int .i64 t.a] 29 (0, 0))) (hl : l.length ≤ 1000) :
    ∃ v1 w1, (Builtin.append_ #[31, 31] ty #[v, .slice (some ⟨bx, 0, none⟩) 1 1]).run Tryz.prog W = .ok v1 w1 ∧ OwnIn B w1 v1 (l ++ [t]) ∧ W.grownBy w1 v.ownBlock := by
  obtain ⟨i0, hi, hzz⟩ := Option.map_eq_some_iff.1 inInfo
  simp only [Prod.mk.injEq] at hzz
  obtain ⟨hz0, hz1, hz2⟩ := hzz
  have hst : Tryz.prog.underlying 31 = some (.slice 29) := Tryz.underlying31
  obtain ⟨v1, w1, hrun, h2, hg, _, hat⟩ := run_append_own_at (P := Tryz.prog) (w := W) B 31 ty 29 i0 (.agg #[.int .i64 0, .int .i64 0]) 2 16 hst hi hz0 hz1 hz2 rfl (by decide) v l.length (fli l) h ⟨bx, 0, none⟩ 1 1 [.int .i64 t.op, .int .i64 t.a] rfl
    (World.news_of_block hbx) (by simp [Value.oneCell']) (by simp only [maxLen]; omega) (by omega) hB
  refine ⟨v1, w1, hrun, ?_, hg⟩
  unfold OwnIn
  rw [fli_app, List.length_append]
  exact h2
/-- A literal of instructions, just laid. -/
theorem OwnIn.lit (W : World) (B : Nat) (l : List In) (hl : l.length ≤ 1000) (hB : B ≤ W.heap.size) : OwnIn B (W.alloc (.cells (fli l).toArray 29)) (.slice (some ⟨W.heap.size, 0, none⟩) l.length l.length) l :=
  ⟨by rw [fli_len], .inr ⟨W.heap.size, l.length, (fli l).toArray, rfl, hB, blk_new _ _, Nat.le_refl _, by unfold maxLen; omega, by simp [fli_len], by simp [← fli_len]⟩⟩
/-- A row of one element. -/
theorem row_one {α : Type} (d : Kd α) {w : World} {g : Nat} {t : TypeId} {x : α} {cs : List Value} (h : w.heap[g]? = some (.cells cs.toArray t (0, 0))) (hk : d.K w x cs) : d.C w (some ⟨g, 0, none⟩) 1 [x] :=
  ⟨rfl, by omega, fun _ => ⟨_, rfl, fun j p hj => by
    have hj0 : j = 0 := by
      have := (List.getElem?_eq_some_iff.1 hj).1
      simpa using this
    subst hj0
    cases hj
    refine ⟨cs, d.K_len hk, hk, fun i u hu => ?_⟩
    rw [add_zero_off]
    exact Bx.cell ⟨h⟩ (by rw [Nat.zero_mul, Nat.zero_add, List.getElem?_toArray]; exact hu)⟩⟩
theorem row_none {α : Type} (d : Kd α) (w : World) : d.C w none 0 [] := ⟨rfl, by omega, fun h => absurd h (Nat.lt_irrefl 0)⟩
/-- A Main of some code, with so many locals, so high a stack. -/
def ofG (loc stk : Int) (code : List In) (pool : List Cn) : List Cl := [⟨nMain, nil, pool, [], [⟨nmain, [], ⟨0, nil⟩, loc, stk, code, []⟩]⟩]
theorem mt_mainG {w : World} {loc stk : Int} {code : List In} {A : Option Addr} {c : Nat} (hc : code.length ≤ c) (h : inK.C w A code.length code) : mtK.K w ⟨nmain, [], ⟨0, nil⟩, loc, stk, code, []⟩ [.string nmain, .slice none 0 0, .int .i64 0, .string nil, .int .i64 loc, .int .i64 stk, .slice A code.length c, .slice none 0 0] :=
  ⟨[.string nmain], _, rfl, rfl, [.slice none 0 0], _, rfl, ⟨none, 0, rfl, Nat.le_refl _, row_none _ w⟩, [.int .i64 0, .string nil], _, rfl, tyK_cs w ⟨0, nil⟩, [.int .i64 loc], _, rfl, rfl, [.int .i64 stk], _, rfl, rfl, [.slice A code.length c], [.slice none 0 0], rfl, ⟨A, c, rfl, hc, h⟩, ⟨none, 0, rfl, Nat.le_refl _, row_none _ w⟩⟩
theorem cl_mainG {w : World} {loc stk : Int} {code : List In} {pool : List Cn} {A P : Option Addr} {c d g : Nat} (hc : code.length ≤ c) (h : inK.C w A code.length code) (hd : pool.length ≤ d) (hp : cnK.C w P pool.length pool)
    (hm : w.heap[g]? = some (.cells #[.string nmain, .slice none 0 0, .int .i64 0, .string nil, .int .i64 loc, .int .i64 stk, .slice A code.length c, .slice none 0 0] 41 (0, 0))) :
    clK.K w ⟨nMain, nil, pool, [], [⟨nmain, [], ⟨0, nil⟩, loc, stk, code, []⟩]⟩ [.string nMain, .string nil, .slice P pool.length d, .slice none 0 0, .slice (some ⟨g, 0, none⟩) 1 1] :=
  ⟨[.string nMain], _, rfl, rfl, [.string nil], _, rfl, rfl, [.slice P pool.length d], _, rfl, ⟨P, d, rfl, hd, hp⟩, [.slice none 0 0], [.slice (some ⟨g, 0, none⟩) 1 1], rfl, ⟨none, 0, rfl, Nat.le_refl _, row_none _ w⟩, ⟨some ⟨g, 0, none⟩, 1, rfl, Nat.le_refl _, row_one mtK hm (mt_mainG hc h)⟩⟩
/-- The cells of a Main, just laid. -/
theorem rows_mainG {w : World} {loc stk : Int} {code : List In} {pool : List Cn} {A P : Option Addr} {c d : Nat} (hc : code.length ≤ c) (h : inK.C w A code.length code) (hd : pool.length ≤ d) (hp : cnK.C w P pool.length pool) :
    clK.C ((w.alloc (.cells #[.string nmain, .slice none 0 0, .int .i64 0, .string nil, .int .i64 loc, .int .i64 stk, .slice A code.length c, .slice none 0 0] 41)).alloc (.cells #[.string nMain, .string nil, .slice P pool.length d, .slice none 0 0, .slice (some ⟨w.heap.size, 0, none⟩) 1 1] 45)) (some ⟨w.heap.size + 1, 0, none⟩) 1 (ofG loc stk code pool) := by
  have hb := bthen (balloc w (.cells #[.string nmain, .slice none 0 0, .int .i64 0, .string nil, .int .i64 loc, .int .i64 stk, .slice A code.length c, .slice none 0 0] 41)) (balloc _ (.cells #[.string nMain, .string nil, .slice P pool.length d, .slice none 0 0, .slice (some ⟨w.heap.size, 0, none⟩) 1 1] 45))
  exact row_one clK (cs := [.string nMain, .string nil, .slice P pool.length d, .slice none 0 0, .slice (some ⟨w.heap.size, 0, none⟩) 1 1]) (blk_second w _ _) (cl_mainG hc (Kd.C_below h hb) hd (Kd.C_below hp hb) (blk_alloc (blk_new w _) _))
theorem link_mainG (loc stk : Int) (code : List In) (pool : List Cn) (B : Option Addr) (w : World) (hC : clK.C w B 1 (ofG loc stk code pool)) (hk : ∀ x, x ∈ pool → x.kind < 3) : Calls Tryz.prog 5 #[.slice B 1 1] w fun e w' => ∃ pp, e = .returned (.tuple #[.pointer pp, .int .i64 (Pl.link (ofG loc stk code pool)).1]) ∧ ((Pl.link (ofG loc stk code pool)).1 = 0 → ∃ pb, pp = some ⟨pb, 0, none⟩ ∧ ProgIs w' pb (Pl.link (ofG loc stk code pool)).2) ∧ Below w.heap.size w w' := by
  refine (link_any (ofG loc stk code pool) B 1 w hC (by show 1 ≤ 900; decide) ?_).mono ?_
  · rintro ⟨c1, hc1, x, hx, h3⟩
    rw [ofG, List.mem_singleton] at hc1
    subst hc1
    have := hk x hx
    omega
  · rintro e w' ⟨pp, h1, h2, _, h4⟩
    exact ⟨pp, h1, h2, h4⟩
/-- Instructions appended to a row of the call's own: made ahead. -/
theorem app_lit {B : Nat} {W : World} {v : Value} {l : List In} (l2 : List In) (h : OwnIn B W v l) (hB : B ≤ W.heap.size) (hl : l.length + l2.length ≤ 1000) :
    ∃ v1 w1, (Builtin.append_ #[31, 31] 31 #[v, .slice (some ⟨W.heap.size, 0, none⟩) l2.length l2.length]).run Tryz.prog (W.alloc (.cells (fli l2).toArray 29)) = .ok v1 w1 ∧ OwnIn B w1 v1 (l ++ l2) ∧ Below B W w1 ∧ W.grownBy w1 v.ownBlock := by
  obtain ⟨i0, hi, hzz⟩ := Option.map_eq_some_iff.1 inInfo
  simp only [Prod.mk.injEq] at hzz
  obtain ⟨hz0, hz1, hz2⟩ := hzz
  have hb := balloc W (.cells (fli l2).toArray 29)
  have hst : Tryz.prog.underlying 31 = some (.slice 29) := Tryz.underlying31
  obtain ⟨v1, w1, hrun, h2, hg, _, hat⟩ := run_append_own_at (P := Tryz.prog) (w := W.alloc (.cells (fli l2).toArray 29)) B 31 31 29 i0 (.agg #[.int .i64 0, .int .i64 0]) 2 16 hst hi hz0 hz1 hz2 rfl (by decide) v l.length (fli l) (h.below hb) ⟨W.heap.size, 0, none⟩ l2.length l2.length (fli l2) (fli_len l2)
    (World.news_of_block (blk_new W _)) (fun u hu => by
      simp only [fli, List.mem_flatMap] at hu
      obtain ⟨x, _, hx⟩ := hu
      simp only [inCs, List.mem_cons, List.not_mem_nil, or_false] at hx
      rcases hx with rfl | rfl <;> rfl) (by simp only [maxLen]; omega) (by omega) (Nat.le_trans hB hb.size)
  refine ⟨v1, w1, hrun, ?_, pw_below_grown (hb.mono hB) _ (Nat.le_trans hB hb.size) hg (fun k hk => own_base h k hk), World.grownBy.trans (World.grownBy_alloc W _ _) hg⟩
  unfold OwnIn
  rw [fli_app, List.length_append]
  exact h2
theorem OwnIn.empty (W : World) (B : Nat) (hB : B ≤ W.heap.size) : OwnIn B (W.alloc (.cells #[] 29)) (.slice (some ⟨W.heap.size, 0, none⟩) 0 0) [] :=
  ⟨rfl, .inr ⟨W.heap.size, 0, #[], rfl, hB, blk_new _ _, Nat.le_refl _, by unfold maxLen; omega, rfl, rfl⟩⟩
theorem cnK_c1 (w : World) (c : Cn) : cnK.K w c (cnCs c) := ⟨[.int .i64 c.kind], _, rfl, rfl, [.int .i64 c.int], _, rfl, rfl, [.complex .f64 c.re c.im], _, rfl, rfl, [.string c.cls], [.string c.name], rfl, rfl, rfl⟩
instance okInsDec (c : Cl) (n : Nat) (i : In) : Decidable (okIns c n i) := by unfold okIns; infer_instance
def insOkB (c : Cl) (m : Mt) (j : Nat) (x : In) : Bool := plainOp x.op && decide (okIns c m.locals.toNat x) && decide (jumps x.op = true → 0 ≤ x.a ∧ x.a < m.code.length) && (stops x.op || decide (j + 1 < m.code.length))
def mtOkB (c : Cl) (m : Mt) : Bool := decide (m.handlers = []) && decide (0 ≤ m.locals ∧ m.locals ≤ 900 ∧ m.stack ≤ 800 ∧ 0 < m.code.length ∧ m.code.length ≤ 100000 ∧ m.params.length < m.locals.toNat) && (List.range m.code.length).all fun j => insOkB c m j (m.code.getD j default)
def okB (p : Pg) : Bool := decide (0 < p.h.length) && p.cs.all fun e => e.2.methods.all (mtOkB e.2)
theorem mtOkB_ok {c : Cl} {m : Mt} (h : mtOkB c m = true) : ∃ n, MtOk c m n ∧ m.locals = n ∧ m.params.length < n ∧ m.code.length ≤ 100000 := by
  simp only [mtOkB, Bool.and_eq_true, decide_eq_true_eq, List.all_eq_true, List.mem_range] at h
  obtain ⟨⟨h1, h2, h3, h4, h5, h6, h7⟩, h8⟩ := h
  refine ⟨m.locals.toNat, ⟨h1, by omega, h4, h5, fun i x hx => ?_⟩, by omega, h7, h6⟩
  have hi := (List.getElem?_eq_some_iff.1 hx).1
  have h9 := h8 i hi
  rw [List.getD_eq_getElem?_getD, hx, Option.getD_some] at h9
  simp only [insOkB, Bool.and_eq_true, decide_eq_true_eq, Bool.or_eq_true] at h9
  obtain ⟨⟨⟨a1, a2⟩, a3⟩, a4⟩ := h9
  refine ⟨a1, a2, a3, fun hs => ?_⟩
  rcases a4 with a4 | a4
  · rw [hs] at a4; cases a4
  · exact a4
theorem look_mem {α : Type} (z : α) : ∀ (l : List (Nm × α)) (n : Nm), Pl.look z l n = z ∨ ∃ k, (k, Pl.look z l n) ∈ l
  | [], n => .inl rfl
  | (k, v) :: r, n => by
    rw [Pl.look]
    split
    · exact .inr ⟨k, List.mem_cons_self⟩
    · rcases look_mem z r n with h | ⟨k', h⟩
      · exact .inl h
      · exact .inr ⟨k', List.mem_cons_of_mem _ h⟩
theorem okB_all {p : Pg} (h : okB p = true) : AllOk p ∧ 0 < p.h.length := by
  simp only [okB, Bool.and_eq_true, decide_eq_true_eq, List.all_eq_true] at h
  obtain ⟨h1, h2⟩ := h
  refine ⟨fun c nm m hm => ?_, h1⟩
  have hmem := List.mem_of_find?_eq_some hm
  rcases look_mem (default : Cl) p.cs c with h3 | ⟨k, h3⟩
  · rw [clsOf, h3] at hmem
    exact absurd hmem List.not_mem_nil
  · exact mtOkB_ok (h2 _ h3 m hmem)
end Go.Proofs.YtpdjkclacbgneaaGreat
namespace Go.Proofs.YtpdjkclacbgneaaGreat
open Go.RowKit Go.Shelf Go.Proofs.YtpdjkclacbgneaaGreatW.PrintWords Go.Proofs.YtpdjkclacbgneaaGreat.Pl

def isRef (t : Ty) : Bool := t.kind == 3 || t.kind == 4 || t.kind == 5
def opR (x : Int) : In := if x % 4 = 0 then ⟨1, 0⟩ else if x % 4 = 1 then ⟨2, 1⟩ else if x % 4 = 2 then ⟨25, 2⟩ else ⟨3, 0⟩
def tyR (x : Int) : Ty := if x % 4 = 0 then kindT 1 else if x % 4 = 1 then kindT 2 else if x % 4 = 2 then refT nMain else kindT 5
theorem isRef_ty (x : Int) : isRef (tyR x) = decide (2 ≤ x % 4) := by
  unfold tyR
  have h0 : 0 ≤ x % 4 := Int.emod_nonneg _ (by decide)
  have h4 : x % 4 < 4 := Int.emod_lt_of_pos _ (by decide)
  split
  · rename_i h; rw [h]; rfl
  · split
    · rename_i h; rw [h]; rfl
    · split
      · rename_i h; rw [h]; rfl
      · have h : x % 4 = 3 := by omega
        rw [h]; rfl
def poolR : List Cn := [⟨1, 0, 0, 0, nil, nil⟩, ⟨2, 0, 0, 0, nil, nil⟩, ⟨3, 0, 0, 0, nMain, nil⟩]
def mtR (code : List In) : Mt := ⟨nmain, [], ⟨0, nil⟩, 3, 12, code, []⟩
def clR (code : List In) : Cl := ⟨nMain, nil, poolR, [], [mtR code]⟩
def pgR (code : List In) : Pg := ⟨(Pl.hier [(nMain, nil)]).2, [(nObject, cObject), (nFault, cFault), (nMain, clR code)]⟩
def codeR (l : List Int) : List In := l.map opR ++ [⟨5, 1⟩, ⟨45, 0⟩, ⟨33, 0⟩]
def locR : List Ty := [refT nMain, kindT 6, kindT 6]
theorem link_linR (code : List In) (h : check (clR code) = 0) : Pl.link [clR code] = (0, pgR code) := by
  have h1 : firstOf check [clR code] = 0 := by rw [firstOf, if_pos h]; rfl
  have h2 : Pl.hier ([clR code].map fun c => (c.name, c.super)) = (0, (Pl.hier [(nMain, nil)]).2) := by show Pl.hier [(nMain, nil)] = _; decide +kernel
  unfold Pl.link
  rw [if_neg (by rw [h1]; decide), h2]
  have h3 : progOf (Pl.hier [(nMain, nil)]).2 [clR code] = pgR code := by kernel_rfl
  have h4 : firstOf (members (pgR code)) [clR code] = 0 := by kernel_rfl
  have h5 : firstOf (fun c => firstOf (pool1 (pgR code)) c.pool) [clR code] = 0 := by kernel_rfl
  have h6 : Pl.meth (pgR code) nMain nmain = (nMain, mtR code, true) := by kernel_rfl
  simp only [h3, h4, h5, h6]
  rfl
theorem check_linR (code : List In) (h : Pl.body (clR code) (mtR code) = 0) : check (clR code) = 0 := by
  have h1 : Pl.method (clR code) [] (mtR code) = Pl.body (clR code) (mtR code) := by kernel_rfl
  have h2 : check (clR code) = firstOn (Pl.method (clR code)) [] [mtR code] := by kernel_rfl
  rw [h2, firstOn, if_pos (h1.trans h)]
  rfl
/-- The instructions that are met here. -/
def RI (x : In) : Prop := x = ⟨1, 0⟩ ∨ x = ⟨2, 1⟩ ∨ x = ⟨25, 2⟩ ∨ x = ⟨3, 0⟩ ∨ x = ⟨5, 1⟩ ∨ x = ⟨45, 0⟩ ∨ x = ⟨33, 0⟩
theorem ri_op (x : Int) : RI (opR x) := by
  unfold opR RI
  split
  · exact .inl rfl
  · split
    · exact .inr (.inl rfl)
    · split
      · exact .inr (.inr (.inl rfl))
      · exact .inr (.inr (.inr (.inl rfl)))
theorem ri_code (l : List Int) : ∀ x, x ∈ codeR l → RI x := by
  intro x hx
  rcases List.mem_append.1 hx with hx | hx
  · obtain ⟨y, _, rfl⟩ := List.mem_map.1 hx
    exact ri_op y
  · simp only [List.mem_cons, List.not_mem_nil, or_false] at hx
    rcases hx with rfl | rfl | rfl
    · exact .inr (.inr (.inr (.inr (.inl rfl))))
    · exact .inr (.inr (.inr (.inr (.inr (.inl rfl)))))
    · exact .inr (.inr (.inr (.inr (.inr (.inr rfl)))))
theorem codeR_len (l : List Int) : (codeR l).length = l.length + 3 := by simp [codeR]
theorem codeR_last {l : List Int} {j : Nat} (hj : j + 1 = (codeR l).length) : (codeR l).getD j default = ⟨33, 0⟩ := by
  rw [codeR_len] at hj
  rw [List.getD_eq_getElem?_getD, codeR, List.getElem?_append_right (by rw [List.length_map]; omega), List.length_map, show j - l.length = 2 by omega]
  rfl
theorem ins_R (code : List In) (x : In) (h : RI x) : Pl.ins (clR code) (mtR code) x = 0 := by
  rcases h with rfl | rfl | rfl | rfl | rfl | rfl | rfl <;> kernel_rfl
theorem body_R {l : List Int} (hl : l.length ≤ 100) : Pl.body (clR (codeR l)) (mtR (codeR l)) = 0 := by
  have hlen := codeR_len l
  have h1 : firstOf (Pl.ins (clR (codeR l)) (mtR (codeR l))) (codeR l) = 0 := firstOf_all fun x hx => ins_R _ x (ri_code l x hx)
  have h2 := codeR_last (l := l) (j := (codeR l).length - 1) (by omega)
  unfold Pl.body
  rw [if_neg (by show ¬ ((codeR l).length < 1 ∨ 200 < (codeR l).length); omega), if_neg (by show ¬ firstOf _ (codeR l) ≠ 0; rw [h1]; decide), if_neg (by show ¬ stops ((codeR l).getD ((codeR l).length - 1) default).op = false; rw [h2]; decide), if_neg (by show ¬ (16 < 0); decide)]
  rfl
theorem insOk_R (code : List In) (j : Nat) (x : In) (h : RI x) (hs : stops x.op = true ∨ j + 1 < code.length) : insOkB (clR code) (mtR code) j x = true := by
  have h1 : (plainOp x.op && decide (okIns (clR code) (mtR code).locals.toNat x)) = true := by
    rw [Bool.and_eq_true]
    refine ⟨?_, ?_⟩
    · rcases h with rfl | rfl | rfl | rfl | rfl | rfl | rfl <;> rfl
    · refine decide_eq_true ⟨fun h4 => ?_, fun h5 => ?_⟩
      · rcases h with rfl | rfl | rfl | rfl | rfl | rfl | rfl
        all_goals first
          | (exact absurd h4 (by decide))
          | exact ⟨by decide, by show (1 : Int) < 3; decide⟩
      · rcases h with rfl | rfl | rfl | rfl | rfl | rfl | rfl
        all_goals first
          | (exact absurd h5 (by decide))
          | exact ⟨by decide, by show (2 : Int) < 3; decide⟩
  have h3 : jumps x.op = false := by rcases h with rfl | rfl | rfl | rfl | rfl | rfl | rfl <;> rfl
  unfold insOkB
  rw [h1, Bool.true_and, Bool.and_eq_true, decide_eq_true_eq, Bool.or_eq_true, decide_eq_true_eq]
  exact ⟨fun hj => absurd (h3.symm.trans hj) (by decide), hs⟩
theorem mtOk_R {l : List Int} (hl : l.length ≤ 100) : mtOkB (clR (codeR l)) (mtR (codeR l)) = true := by
  have hlen := codeR_len l
  have h1 : (List.range (mtR (codeR l)).code.length).all (fun j => insOkB (clR (codeR l)) (mtR (codeR l)) j ((mtR (codeR l)).code.getD j default)) = true := by
    rw [List.all_eq_true]
    intro j hj
    have hj : j < (codeR l).length := List.mem_range.1 hj
    show insOkB (clR (codeR l)) (mtR (codeR l)) j ((codeR l).getD j default) = true
    obtain ⟨x, hx⟩ : ∃ x, (codeR l).getD j default = x := ⟨_, rfl⟩
    have hm : x ∈ codeR l := by
      rw [← hx, List.getD_eq_getElem?_getD, List.getElem?_eq_getElem hj]
      exact List.getElem_mem hj
    rw [hx]
    refine insOk_R _ j x (ri_code l x hm) ?_
    by_cases h : j + 1 < (codeR l).length
    · exact .inr h
    · left
      rw [codeR_last (by omega)] at hx
      rw [← hx]
      rfl
  unfold mtOkB
  rw [h1, Bool.and_true, Bool.and_eq_true, decide_eq_true_eq, decide_eq_true_eq]
  refine ⟨rfl, by show (0 : Int) ≤ 3; decide, by show (3 : Int) ≤ 900; decide, by show (12 : Int) ≤ 800; decide, ?_, ?_, by show 0 < 3; decide⟩
  · show 0 < (codeR l).length
    omega
  · show (codeR l).length ≤ 100000
    omega
theorem ok_R {l : List Int} (hl : l.length ≤ 100) : okB (pgR (codeR l)) = true := by
  have h1 : (pgR (codeR l)).cs = [(nObject, cObject), (nFault, cFault), (nMain, clR (codeR l))] := rfl
  have h2 : decide (0 < (pgR (codeR l)).h.length) = true := by kernel_rfl
  unfold okB
  rw [h2, h1]
  simp only [List.all_cons, List.all_nil, show cObject.methods = [] from rfl, show cFault.methods = [] from rfl, show (clR (codeR l)).methods = [mtR (codeR l)] from rfl, mtOk_R hl]
  rfl
/-! ### the states -/
theorem nxt_push (p : Pg) (code : List In) (loc stk : List Ty) (x : Int) : nxt p (clR code) (mtR code) ⟨true, loc, stk⟩ (opR x) = ⟨loc, stk ++ [tyR x], 0⟩ := by
  unfold opR tyR
  split
  · rfl
  · split
    · rfl
    · split
      · rfl
      · rfl
theorem nxtS_push (p : Pg) (code : List In) (loc stk : List Ty) (x : Int) : nxtS p (clR code) (mtR code) ⟨true, loc, stk⟩ (opR x) = ⟨true, loc, stk ++ [tyR x]⟩ := by
  unfold nxtS
  rw [nxt_push]
theorem nxt_store (p : Pg) (code : List In) (loc stk : List Ty) (t : Ty) : nxt p (clR code) (mtR code) ⟨true, loc, stk ++ [t]⟩ ⟨5, 1⟩ = ⟨loc.set 1 t, stk, 0⟩ := by
  have h : nxt p (clR code) (mtR code) ⟨true, loc, stk ++ [t]⟩ ⟨5, 1⟩ = setLocal (popR ⟨loc, stk ++ [t], 0⟩) ⟨5, 1⟩ (popT ⟨loc, stk ++ [t], 0⟩) := rfl
  rw [h]
  unfold setLocal popR popT
  have hn : (stk ++ [t]).length = stk.length + 1 := by simp
  simp only [hn]
  rw [if_neg (by omega), if_neg (by omega)]
  simp only [Nat.add_sub_cancel, List.take_left', List.getD_eq_getElem?_getD]
  rw [List.getElem?_append_right (Nat.le_refl _), Nat.sub_self]
  rfl
theorem noRef6 (l : List Int) : (l.map tyR).any (fun t => decide (t.kind = 6)) = false := by
  rw [List.any_eq_false]
  intro t ht
  obtain ⟨x, _, rfl⟩ := List.mem_map.1 ht
  unfold tyR
  split
  · decide
  · split
    · decide
    · split <;> decide
theorem stops_R (x : Int) : stops (opR x).op = false ∧ jumps (opR x).op = false := by
  unfold opR
  split
  · exact ⟨rfl, rfl⟩
  · split
    · exact ⟨rfl, rfl⟩
    · split <;> exact ⟨rfl, rfl⟩
theorem okS_R (p : Pg) (code : List In) (loc : List Ty) : ∀ (r d : List Int), (d ++ r).length ≤ 12 → 0 < (d ++ r).length → okS p (clR code) (mtR code) ⟨true, loc, d.map tyR⟩ (codeR r) = true
  | [], d, h12, h0 => by
    obtain ⟨s, x, rfl⟩ : ∃ s x, d = s ++ [x] := by
      rcases List.eq_nil_or_concat d with rfl | ⟨s, x, rfl⟩
      · exact absurd h0 (by decide)
      · exact ⟨s, x, by simp⟩
    show okS p (clR code) (mtR code) ⟨true, loc, (s ++ [x]).map tyR⟩ [⟨5, 1⟩, ⟨45, 0⟩, ⟨33, 0⟩] = true
    have hl : (s.map tyR).length ≤ 12 := by simp at h12 ⊢; omega
    have h6 := noRef6 s
    rw [List.map_append, List.map_cons, List.map_nil]
    rw [okS]
    have e1 : nxtS p (clR code) (mtR code) ⟨true, loc, s.map tyR ++ [tyR x]⟩ ⟨5, 1⟩ = ⟨true, loc.set 1 (tyR x), s.map tyR⟩ := by unfold nxtS; rw [nxt_store]
    rw [nxt_store, e1]
    generalize s.map tyR = st at *
    generalize loc.set 1 (tyR x) = lo at *
    have e2 : nxt p (clR code) (mtR code) ⟨true, lo, st⟩ ⟨45, 0⟩ = ⟨lo, st, 0⟩ := rfl
    have e3 : nxtS p (clR code) (mtR code) ⟨true, lo, st⟩ ⟨45, 0⟩ = ⟨true, lo, st⟩ := rfl
    have e4 : nxt p (clR code) (mtR code) ⟨true, lo, st⟩ ⟨33, 0⟩ = ⟨lo, st, 0⟩ := rfl
    have hz : decide ((st.length : Int) ≤ (mtR code).stack) = true := decide_eq_true (by show (st.length : Int) ≤ 12; omega)
    simp only [okS, e2, e3, e4, hz, h6]
    rfl
  | x :: r, d, h12, h0 => by
    have ih := okS_R p code loc r (d ++ [x]) (by simpa using h12) (by simp; omega)
    have hc : codeR (x :: r) = opR x :: codeR r := rfl
    obtain ⟨k, r', hk⟩ : ∃ k r', codeR r = k :: r' := by
      cases r with
      | nil => exact ⟨_, _, rfl⟩
      | cons a b => exact ⟨_, _, rfl⟩
    rw [hc, hk, okS]
    rw [hk] at ih
    have h6 := noRef6 (d ++ [x])
    have hl : ((d ++ [x]).map tyR).length ≤ 12 := by simp at h12 ⊢; omega
    rw [List.map_append, List.map_cons, List.map_nil] at h6 hl ih
    have hz : decide (((d.map tyR ++ [tyR x]).length : Int) ≤ (mtR code).stack) = true := decide_eq_true (by show ((d.map tyR ++ [tyR x]).length : Int) ≤ 12; omega)
    simp only [nxt_push, nxtS_push, (stops_R x).1, (stops_R x).2, hz, h6, ih]
    rfl
theorem seq_R (p : Pg) (code : List In) (loc : List Ty) : ∀ (r d : List Int) (j : Nat), j ≤ r.length → (seqS p (clR code) (mtR code) ⟨true, loc, d.map tyR⟩ (codeR r)).getD j default = ⟨true, loc, (d ++ r.take j).map tyR⟩
  | [], d, j, hj => by
    have : j = 0 := by simpa using hj
    subst this
    rw [List.take_nil, List.append_nil]
    rfl
  | x :: r, d, 0, _ => by
    rw [List.take_zero, List.append_nil]
    rfl
  | x :: r, d, j + 1, hj => by
    have ih := seq_R p code loc r (d ++ [x]) j (by simpa using hj)
    have hc : codeR (x :: r) = opR x :: codeR r := rfl
    rw [hc, seqS, nxtS_push]
    rw [List.map_append, List.map_cons, List.map_nil] at ih
    rw [List.getD_cons_succ, ih]
    simp
theorem seq_last (p : Pg) (code : List In) (loc : List Ty) (x : Int) : ∀ (r d : List Int), (seqS p (clR code) (mtR code) ⟨true, loc, d.map tyR⟩ (codeR (r ++ [x]))).getD (r.length + 2) default = ⟨true, loc.set 1 (tyR x), (d ++ r).map tyR⟩
  | [], d => by
    have hc : codeR ([] ++ [x]) = opR x :: [⟨5, 1⟩, ⟨45, 0⟩, ⟨33, 0⟩] := rfl
    rw [hc, seqS, nxtS_push, seqS, seqS]
    show nxtS p (clR code) (mtR code) ⟨true, loc, d.map tyR ++ [tyR x]⟩ ⟨5, 1⟩ = _
    unfold nxtS
    rw [nxt_store, List.append_nil]
  | y :: r, d => by
    have ih := seq_last p code loc x r (d ++ [y])
    have hc : codeR ((y :: r) ++ [x]) = opR y :: codeR (r ++ [x]) := rfl
    rw [hc, seqS, nxtS_push]
    rw [List.map_append, List.map_cons, List.map_nil] at ih
    show (_ :: _ : List St).getD (r.length + 2 + 1) default = _
    rw [List.getD_cons_succ, ih]
    simp
theorem lseq_R : ∀ l : List Int, lseq (codeR l) [] = 0
  | [] => rfl
  | x :: r => by
    have hc : codeR (x :: r) = opR x :: codeR r := rfl
    have hb : behind (opR x) [] = ([], 0) := by
      unfold opR
      split
      · rfl
      · split
        · rfl
        · split <;> rfl
    rw [hc, lseq, hb, (stops_R x).1]
    exact lseq_R r
/-- What the verifier and the walk of locks answer of it. -/
theorem roots_R (l : List Int) (hl : l.length ≤ 12) (h0 : 0 < l.length) :
    Pl.link (ofG 3 12 (codeR l) poolR) = (0, pgR (codeR l)) ∧ AllOk (pgR (codeR l)) ∧ (pgR (codeR l)).h.map (·.1) = [nObject, nFault, nMain] ∧ (clsOf (pgR (codeR l)) nObject).methods = [] ∧ (clsOf (pgR (codeR l)) nFault).methods = [] ∧ (clsOf (pgR (codeR l)) nMain).methods = [mtR (codeR l)] ∧
    ∃ L Ls, vmethod (pgR (codeR l)) 100 nMain nmain = some (0, L) ∧ lmethod (pgR (codeR l)) 100 nMain nmain = some (0, Ls) ∧ L.length = l.length + 3 ∧ L = seqS (pgR (codeR l)) (clR (codeR l)) (mtR (codeR l)) ⟨true, locR, []⟩ (codeR l) := by
  have hk : Pl.link (ofG 3 12 (codeR l) poolR) = (0, pgR (codeR l)) := link_linR _ (check_linR _ (body_R (by omega)))
  have hlen := codeR_len l
  obtain ⟨k, r', hkr⟩ : ∃ k r', codeR l = k :: r' := by
    cases l with
    | nil => exact ⟨_, _, rfl⟩
    | cons a b => exact ⟨_, _, rfl⟩
  have he : entry nMain (mtR (codeR l)) = ⟨true, locR, []⟩ := rfl
  have hv := passes_lin (p := pgR (codeR l)) (c := clR (codeR l)) (m := mtR (codeR l)) (cls := nMain) (i := k) (r := r') hkr (by show (0 : Int) ≤ 12; decide) (by rw [← hkr, he]; exact okS_R _ _ _ l [] hl h0)
  have hr : r'.length ≤ 90 := by
    have := congrArg List.length hkr
    rw [List.length_cons] at this
    omega
  have hju : ∀ x, x ∈ k :: r' → jumps x.op = false := by
    rw [← hkr]
    intro x hx
    rcases ri_code l x hx with rfl | rfl | rfl | rfl | rfl | rfl | rfl <;> rfl
  have hst : stops ((k :: r').getLast (List.cons_ne_nil k r')).op = true := by
    have : (k :: r').getLast (List.cons_ne_nil k r') = ⟨33, 0⟩ := by
      simp only [← hkr]
      unfold codeR
      simp
    rw [this]
    rfl
  obtain ⟨Ls, hL⟩ := lstart_lin (m := mtR (codeR l)) hkr hr hju hst
  rw [← hkr, lseq_R] at hL
  have hc : clsOf (pgR (codeR l)) nMain = clR (codeR l) := by kernel_rfl
  have hf : (clR (codeR l)).methods.find? (fun m => decide (m.name = nmain)) = some (mtR (codeR l)) := by kernel_rfl
  have hm : vmethod (pgR (codeR l)) 100 nMain nmain = some (0, seqS (pgR (codeR l)) (clR (codeR l)) (mtR (codeR l)) ⟨true, locR, []⟩ (codeR l)) := by
    unfold vmethod
    rw [hc, hf]
    rw [← hkr] at hv
    exact hv
  have hlm : lmethod (pgR (codeR l)) 100 nMain nmain = some (0, Ls) := by
    unfold lmethod
    rw [hm, hc, hf]
    simp only [ne_eq, not_true_eq_false, if_false]
    exact hL
  refine ⟨hk, (okB_all (ok_R (by omega))).1, by kernel_rfl, by kernel_rfl, by kernel_rfl, by rw [hc]; rfl, _, Ls, hm, hlm, ?_, rfl⟩
  rw [hkr, seqS_len, ← hlen, hkr, List.length_cons]
end Go.Proofs.YtpdjkclacbgneaaGreat
