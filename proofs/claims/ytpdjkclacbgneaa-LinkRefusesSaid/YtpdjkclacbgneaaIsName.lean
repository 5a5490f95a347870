/- class.IsName: whether a text is a name. -/
import Derived.Test.YtpdjkclacbgneaaChecked
import Derived.Test.YtpdjkclacbgneaaBase
import Derived.Test.YtpdjkclacbgneaaPure

import Derived.WalkLawsBesides
import Derived.Outline
import Derived.Lib.Hide
set_option linter.unusedVariables false
set_option linter.unusedSimpArgs false
namespace Go.Proofs.Ytpdjkclacbgneaa
open Go.RowKit Go.Proofs.YtpdjkclacbgneaaW.PrintWords Go.Proofs.Ytpdjkclacbgneaa.Pl



set_option maxHeartbeats 1000000 in
theorem letter_any (c : Int) (h0 : 0 ≤ c) (h1 : c < 256) (w : World) : Calls Try.prog 84 #[.int .u8 c] w fun e w' => e = .returned (.bool (letterB c)) ∧ w = w' := by
  by_cases g1 : 97 ≤ c <;> by_cases g2 : c ≤ 122 <;> by_cases g3 : 65 ≤ c <;> by_cases g4 : c ≤ 90 <;> by_cases g5 : c = 95 <;> by_cases g6 : c = 36
  all_goals first
    | omega
    | (go_enter Try.func84, Try.ntmps84
       go_wp2
       go_ret
       refine ⟨congrArg (fun b => Ending.returned (.bool b)) ?_, rfl⟩
       rw [Bool.eq_iff_iff]
       simp [letterB]
       try omega)
theorem letter_is {c : Int} (h0 : 0 ≤ c) (h1 : c < 256) {b : Bool} (h : Hid (letterB c = b)) (w : World) : Calls Try.prog 84 #[.int .u8 c] w fun e w' => e = .returned (.bool b) ∧ w = w' := by
  have := letter_any c h0 h1 w
  rwa [h.out] at this
set_option maxHeartbeats 1000000 in
theorem part_any (c : Int) (h0 : 0 ≤ c) (h1 : c < 256) (w : World) : Calls Try.prog 85 #[.int .u8 c] w fun e w' => e = .returned (.bool (partB c)) ∧ w = w' := by
  rcases hl : letterB c with _ | _ <;> by_cases g1 : 48 ≤ c <;> by_cases g2 : c ≤ 57
  all_goals first
    | omega
    | (have HL := Lib.hid hl
       go_enter Try.func85, Try.ntmps85
       go_wp2_with (go_at_call 84; (with_reducible refine (letter_is h0 h1 HL _).mono ?_); rintro e w' ⟨rfl, rfl⟩)
       go_ret
       exact ⟨by simp [partB, hl, g1, g2], rfl⟩)

/-! ### IsName -/
theorem part_is {c : Int} (h0 : 0 ≤ c) (h1 : c < 256) {b : Bool} (h : Hid (partB c = b)) (w : World) : Calls Try.prog 85 #[.int .u8 c] w fun e w' => e = .returned (.bool b) ∧ w = w' := by
  have := part_any c h0 h1 w
  rwa [h.out] at this
theorem bytesOf_cons {s : ByteArray} (h : 0 < s.size) : ∃ r, bytesOf s = ((s[0]'h).toNat : Int) :: r ∧ r.length + 1 = s.size := by
  obtain ⟨⟨l⟩⟩ := s
  cases l with
  | nil => exact absurd h (by decide)
  | cons c r => exact ⟨r.map fun b => (b.toNat : Int), rfl, by simp [ByteArray.size]⟩
theorem bytesOf_at {s : ByteArray} {i : Nat} (h : i < s.size) : (bytesOf s)[i]? = some ((s[i]'h).toNat : Int) := by
  obtain ⟨⟨l⟩⟩ := s
  have hl : i < l.length := h
  show (l.map fun b => (b.toNat : Int))[i]? = some ((l[i]'hl).toNat : Int)
  rw [List.getElem?_map, List.getElem?_eq_getElem hl]
  rfl
theorem bytesOf_len (s : ByteArray) : (bytesOf s).length = s.size := by
  obtain ⟨⟨l⟩⟩ := s
  simp [bytesOf, ByteArray.size]
theorem isName_eq {s : ByteArray} (h : 0 < s.size) : isName s = (decide (s.size ≤ 20) && letterB ((s[0]'h).toNat : Int) && (bytesOf s).all partB) := by
  obtain ⟨r, hr, hl⟩ := bytesOf_cons h
  unfold isName
  rw [hr]
  simp only
  congr 2
  rw [decide_eq_decide]
  omega
theorem isName_nil : isName ⟨#[]⟩ = false := by decide
def PIsName (s : ByteArray) (w : World) (a' : Act) (w' : World) : Prop :=
  w = w' ∧ ∃ (i : Nat) (u4 u5 u6 u7 u8 u9 u10 u11 u12 u13 u14 u15 u16 u17 u18 u19 u20 u21 u22 u23 u24 u25 u26 u27 : Value), a' = { tmps := #[.string s, undef, .bool false, .int .i64 i, u4, u5, u6, u7, u8, u9, u10, u11, u12, u13, u14, u15, u16, u17, u18, u19, u20, u21, u22, u23, u24, u25, u26, u27], defers := [] } ∧ i ≤ s.size ∧ ((bytesOf s).take i).all partB = true
set_option maxHeartbeats 1000000 in
set_option maxRecDepth 10000 in
theorem isName_any (s : ByteArray) (w : World) : Calls Try.prog 57 #[.string s] w fun e w' => e = .returned (.bool (isName s)) ∧ w = w' := by
  by_cases he : s = ⟨#[]⟩
  · subst he
    rw [isName_nil]
    go_enter Try.func57, Try.ntmps57
    go_wp2
    refine wp_scope_once 0 (fun _ _ => False) (fun _ _ => 0) rfl (fun _ _ h => h.elim) ?_
    intro _
    go_wp2
    simp only [Exit.then, Exit.jump]
    go_ret
    exact ⟨rfl, rfl⟩
  · have hne : 0 < s.size := by
      rcases Nat.eq_zero_or_pos s.size with h | h
      · refine absurd ?_ he
        apply ByteArray.ext
        exact Array.eq_empty_of_size_eq_zero h
      · exact h
    have e1 : (s.toList == []) = false := by
      have := str_ne he
      rw [ByteArray.toList_eq, ByteArray.toList_eq] at this
      rw [ByteArray.toList_eq]
      exact this
    have hb0 : (0 : Int) ≤ ((s[0]'hne).toNat : Int) := by omega
    have hb1 : ((s[0]'hne).toNat : Int) < 256 := by have := (s[0]'hne).toNat_lt; omega
    by_cases h20 : s.size ≤ 20
    · have e2 : ¬ (20 : Int) < (s.size : Int) := by omega
      rcases hl : letterB ((s[0]'hne).toNat : Int) with _ | _
      · have HL := Lib.hid hl
        have HF : Hid (isName s = false) := Lib.hid (by rw [isName_eq hne, hl]; simp)
        go_enter Try.func57, Try.ntmps57
        go_wp2
        refine wp_scope_once 0 (fun _ _ => False) (fun _ _ => 0) rfl (fun _ _ h => h.elim) ?_
        intro _
        go_wp2_with (go_at_call 84; (with_reducible refine (letter_is hb0 hb1 HL _).mono ?_); rintro e w' ⟨rfl, rfl⟩)
        simp only [Exit.then, Exit.jump]
        go_ret
        exact ⟨by rw [HF.out]; rfl, rfl⟩
      · have HL := Lib.hid hl
        have HT : Hid ((bytesOf s).all partB = isName s) := Lib.hid (by rw [isName_eq hne, hl]; simp [h20])
        clear hl
        go_enter Try.func57, Try.ntmps57
        go_wp2
        refine wp_scope_once 0 (PIsName s w) (fun a' _ => s.size - (intOf (a'.tmps.getD 3 undef)).toNat) rfl ?_ ?_
        · rintro a' w' ⟨rfl, i, u4, u5, u6, u7, u8, u9, u10, u11, u12, u13, u14, u15, u16, u17, u18, u19, u20, u21, u22, u23, u24, u25, u26, u27, rfl, hi, ha⟩
          have HA := Lib.hid ha
          clear ha
          by_cases hend : i = s.size
          · subst hend
            go_wp2
            simp only [Exit.jump]
            go_ret
            refine ⟨?_, rfl⟩
            rw [← HT.out]
            have := HA.out
            rw [← bytesOf_len, List.take_length] at this
            rw [this]
            rfl
          · have hlt : i < s.size := by omega
            have hi0 : (0 : Int) ≤ ((s[i]'hlt).toNat : Int) := by omega
            have hi1 : ((s[i]'hlt).toNat : Int) < 256 := by have := (s[i]'hlt).toNat_lt; omega
            have e5 : ((i : Int) == (s.size : Int)) = false := by rw [beq_eq_false_iff_ne]; omega
            rcases hp : partB ((s[i]'hlt).toNat : Int) with _ | _
            · have HP := Lib.hid hp
              have HF : Hid ((bytesOf s).all partB = false) := Lib.hid (by
                rw [List.all_eq_false]
                exact ⟨_, List.mem_of_getElem? (bytesOf_at hlt), by rw [hp]; simp⟩)
              clear hp
              go_wp2_with (go_at_call 85; (with_reducible refine (part_is hi0 hi1 HP _).mono ?_); rintro e w' ⟨rfl, rfl⟩)
              simp only [Exit.jump]
              go_ret
              exact ⟨by rw [← HT.out, HF.out]; rfl, rfl⟩
            · have HP := Lib.hid hp
              have HN : Hid (((bytesOf s).take (i + 1)).all partB = true) := Lib.hid (by
                rw [List.take_add_one, bytesOf_at hlt, List.all_append, HA.out]
                simp [hp])
              clear hp
              go_wp2_with (go_at_call 85; (with_reducible refine (part_is hi0 hi1 HP _).mono ?_); rintro e w' ⟨rfl, rfl⟩)
              go_step3
              refine ⟨rfl, ⟨rfl, i + 1, _, _, _, _, _, _, _, _, _, _, _, _, _, _, _, _, _, _, _, _, _, _, _, _, rfl, by omega, HN.out⟩, ?_⟩
              simp [intOf]; omega
        · intro hp
          go_wp2_with (go_at_call 84; (with_reducible refine (letter_is hb0 hb1 HL _).mono ?_); rintro e w' ⟨rfl, rfl⟩)
          go_step3
          simp only [Exit.then]
          refine (by assumption : ∀ (a : Act) (w : World), _ → _) _ _ (hp _ _ ?_)
          exact ⟨rfl, 0, _, _, _, _, _, _, _, _, _, _, _, _, _, _, _, _, _, _, _, _, _, _, _, _, rfl, by omega, by simp⟩
    · have e2 : (20 : Int) < (s.size : Int) := by omega
      have HF : Hid (isName s = false) := Lib.hid (by rw [isName_eq hne]; simp [h20])
      go_enter Try.func57, Try.ntmps57
      go_wp2
      refine wp_scope_once 0 (fun _ _ => False) (fun _ _ => 0) rfl (fun _ _ h => h.elim) ?_
      intro _
      go_wp2
      simp only [Exit.then, Exit.jump]
      go_ret
      exact ⟨by rw [HF.out]; rfl, rfl⟩
theorem isName_is {s : ByteArray} {b : Bool} (h : Hid (isName s = b)) (w : World) : Calls Try.prog 57 #[.string s] w fun e w' => e = .returned (.bool b) ∧ w = w' := by
  have := isName_any s w
  rwa [h.out] at this
end Go.Proofs.Ytpdjkclacbgneaa
