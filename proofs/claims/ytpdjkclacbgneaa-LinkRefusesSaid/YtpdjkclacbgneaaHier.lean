/- Ancestors as they lie in memory: types.Has, round, Ancestors. -/
import Derived.Test.YtpdjkclacbgneaaMap
import Derived.WalkMore
import Derived.Deep.DeepMust
set_option linter.unusedVariables false
set_option linter.unusedSimpArgs false
namespace Go.Proofs.Ytpdjkclacbgneaa
open Go.RowKit Go.Shelf Go.Proofs.YtpdjkclacbgneaaW.PrintWords Go.Proofs.Ytpdjkclacbgneaa.Pl

def strV (h : Hier) : List (Nm × Value) := h.map fun p => (p.1, Value.string p.2)
theorem look_strV (h : Hier) (n : Nm) : Pl.look (.string ⟨#[]⟩) (strV h) n = .string (sup h n) := by
  induction h with
  | nil => rfl
  | cons p r ih =>
    obtain ⟨k, v⟩ := p
    simp only [strV, List.map_cons, Pl.look, sup]
    split
    · rfl
    · exact ih
theorem has_strV (h : Hier) (n : Nm) : Pl.has (strV h) n = Pl.has h n := by
  induction h with
  | nil => rfl
  | cons p r ih =>
    obtain ⟨k, v⟩ := p
    simp only [strV, List.map_cons, Pl.has]
    split
    · rfl
    · exact ih
/-- The hierarchy that the block g is. -/
structure HierIs (w : World) (g : Nat) (h : Hier) : Prop where
  small : h.length ≤ 18
  names : ∃ A c, w.cell? ⟨g, 0, none⟩ = some (.slice A h.length c) ∧ h.length ≤ c ∧ Kd.string.C w A h.length (h.map (·.1))
  map : ∃ b, w.cell? ⟨g, 1, none⟩ = some (.map (some b)) ∧ MapIs w b (strV h)
theorem HierIs.below {w w1 : World} {g : Nat} {h : Hier} (H : HierIs w g h) (hb : Below w.heap.size w w1) : HierIs w1 g h := by
  obtain ⟨h0, ⟨A, c, h1, h2, h3⟩, b, h4, h5⟩ := H
  exact ⟨h0, ⟨A, c, pw_cell_below hb h1, h2, Kd.C_below h3 hb⟩, b, pw_cell_below hb h4, h5.below hb⟩
theorem obj_eq {n : Nm} (h : n = nObject) : (n.toList == [79, 98, 106, 101, 99, 116]) = true := by
  rw [h, ByteArray.toList_eq]
  rfl
theorem obj_ne {n : Nm} (h : ¬ n = nObject) : (n.toList == [79, 98, 106, 101, 99, 116]) = false := by
  have := str_ne h
  rw [ByteArray.toList_eq, ByteArray.toList_eq] at this
  rw [ByteArray.toList_eq]
  exact this
set_option maxHeartbeats 200000 in
theorem has_any (g : Nat) (h : Hier) (n : Nm) (w : World) (H : HierIs w g h) : Calls Try.prog 39 #[.pointer (some ⟨g, 0, none⟩), .string n] w fun e w' => e = .returned (.bool (Pl.has h n)) ∧ w = w' := by
  obtain ⟨h0, _, b, hb, hm⟩ := H
  have hl := run_look (P := Try.prog) (s := n) hm Try.underlying102 Try.underlying9 (z := .string ⟨#[]⟩) (by kernel_rfl) true
  rw [look_strV, has_strV] at hl
  simp only [if_true] at hl
  generalize Pl.has h n = q at *
  generalize sup h n = sn at *
  go_enter Try.func39, Try.ntmps39
  go_wp2
  go_ret
  exact ⟨rfl, rfl⟩
theorem has_is {g : Nat} {h : Hier} {n : Nm} {w : World} (H : HierIs w g h) {q : Bool} (hq : Pl.has h n = q) : Calls Try.prog 39 #[.pointer (some ⟨g, 0, none⟩), .string n] w fun e w' => e = .returned (.bool q) ∧ w = w' := by
  have := has_any g h n w H
  rwa [hq] at this

def PRound (g : Nat) (h : Hier) (n : Nm) (w : World) (a' : Act) (w' : World) : Prop :=
  w = w' ∧ ∃ (m : Nm) (i : Nat) (u6 u7 u8 u9 u10 u11 u12 u13 u14 u15 u16 u17 u18 u19 u20 u21 u22 : Value), a' = { tmps := #[.pointer (some ⟨g, 0, none⟩), .string m, undef, undef, .bool false, .int .i64 i, u6, u7, u8, u9, u10, u11, u12, u13, u14, u15, u16, u17, u18, u19, u20, u21, u22], defers := [] } ∧ i ≤ h.length + 1 ∧ Pl.round h (h.length + 1 - i) m = Pl.round h (h.length + 1) n
set_option maxHeartbeats 200000 in
set_option maxRecDepth 10000 in
theorem round_any (g : Nat) (h : Hier) (n : Nm) (w : World) (H : HierIs w g h) : Calls Try.prog 61 #[.pointer (some ⟨g, 0, none⟩), .string n] w fun e w' => e = .returned (.bool (Pl.round h (h.length + 1) n)) ∧ w = w' := by
  obtain ⟨h0, ⟨A, c, hA, hc, hC⟩, b, hb, hm⟩ := H
  generalize hres : Pl.round h (h.length + 1) n = res
  have HRES := Lib.hid hres
  clear hC
  go_enter Try.func61, Try.ntmps61
  go_wp2
  refine wp_scope_once 0 (PRound g h n w) (fun a' _ => h.length + 2 - (intOf (a'.tmps.getD 5 undef)).toNat) rfl ?_ ?_
  · rintro a' w' ⟨rfl, m, i, u6, u7, u8, u9, u10, u11, u12, u13, u14, u15, u16, u17, u18, u19, u20, u21, u22, rfl, hi, ha⟩
    rw [HRES.out] at ha
    have HA := Lib.hid ha
    clear ha
    by_cases ho : m = nObject
    · have e1 := obj_eq ho
      have HO := Lib.hid ho
      have HR : Hid (res = false) := Lib.hid (by
        rw [← HA.out]
        cases h.length + 1 - i <;> simp [Pl.round, ho])
      clear ho
      go_wp2
      simp only [Exit.jump]
      go_ret
      exact ⟨by rw [HR.out]; rfl, rfl⟩
    have e1 := obj_ne ho
    by_cases hi2 : h.length < i
    · have hz : (h.length : Int) < (i : Int) := by omega
      have HR : Hid (res = true) := Lib.hid (by
        rw [← HA.out, show h.length + 1 - i = 0 by omega]
        simp [Pl.round, ho])
      go_wp2
      simp only [Exit.jump]
      go_ret
      exact ⟨by rw [HR.out]; rfl, rfl⟩
    · have hz : ¬ (h.length : Int) < (i : Int) := by omega
      have hz2 : decide (h.length < i) = false := by simp; omega
      have hl := run_look (P := Try.prog) (s := m) hm Try.underlying102 Try.underlying9 (z := .string ⟨#[]⟩) (by kernel_rfl) false
      rw [look_strV] at hl
      simp only [Bool.false_eq_true, if_false] at hl
      have HN : Hid (Pl.round h (h.length + 1 - (i + 1)) (sup h m) = res) := Lib.hid (by
        rw [← HA.out, show h.length + 1 - i = (h.length + 1 - (i + 1)) + 1 by omega]
        simp [Pl.round, ho])
      generalize sup h m = sm at *
      go_wp2
      go_step3
      refine ⟨rfl, ⟨rfl, sm, i + 1, _, _, _, _, _, _, _, _, _, _, _, _, _, _, _, _, _, rfl, by omega, ?_⟩, ?_⟩
      · rw [HN.out, HRES.out]
      · simp [intOf]; omega
  · intro hp
    go_wp2
    go_step3
    simp only [Exit.then]
    refine (by assumption : ∀ (a : Act) (w : World), _ → _) _ _ (hp _ _ ?_)
    exact ⟨rfl, n, 0, _, _, _, _, _, _, _, _, _, _, _, _, _, _, _, _, _, rfl, by omega, rfl⟩
theorem round_is {g : Nat} {h : Hier} {n : Nm} {w : World} (H : HierIs w g h) {q : Bool} (hq : Pl.round h (h.length + 1) n = q) : Calls Try.prog 61 #[.pointer (some ⟨g, 0, none⟩), .string n] w fun e w' => e = .returned (.bool q) ∧ w = w' := by
  have := round_any g h n w H
  rwa [hq] at this

theorem strInfo : (Try.prog.info? 9).map (fun i => (i.zero, i.size, i.bytes)) = some (some (.string ⟨#[]⟩), 1, 16) := by kernel_rfl
theorem anc_len (h : Hier) : ∀ (k : Nat) (n : Nm), (anc h k n).length ≤ k + 1
  | 0, n => by simp [anc]
  | k + 1, n => by
    simp only [anc, List.length_cons]
    split
    · simp
    · have := anc_len h k (sup h n)
      omega
def PAnc (g : Nat) (h : Hier) (n : Nm) (w : World) (a' : Act) (w' : World) : Prop :=
  Below w.heap.size w w' ∧ ∃ (m : Nm) (k : Nat) (out : List Nm) (v : Value) (u6 u7 u8 u9 u10 u11 u12 u13 u14 u15 u16 u17 u18 u19 u20 u21 u22 : Value), a' = { tmps := #[.pointer (some ⟨g, 0, none⟩), .string m, undef, undef, .slice none 0 0, v, u6, u7, u8, u9, u10, u11, u12, u13, u14, u15, u16, u17, u18, u19, u20, u21, u22], defers := [] } ∧ k ≤ h.length + 1 ∧ Pl.round h k m = false ∧ out ++ anc h k m = anc h (h.length + 1) n ∧ Kd.string.R 9 w' w.heap.size (fun _ => True) v out
set_option maxHeartbeats 200000 in
set_option maxRecDepth 10000 in
theorem ancestors_any (g : Nat) (h : Hier) (n : Nm) (w : World) (H : HierIs w g h) (hr : Pl.has h n = true → Pl.round h (h.length + 1) n = false) : Calls Try.prog 40 #[.pointer (some ⟨g, 0, none⟩), .string n] w fun e w' => ∃ v, e = .returned v ∧ Kd.string.R 9 w' w.heap.size (fun _ => True) v (ancestors h n) ∧ Below w.heap.size w w' := by
  have HH := Aside0.mk H
  obtain ⟨h0, ⟨A, c, hA, hc, hC⟩, b, hb, hm⟩ := H
  clear hC
  rcases hq : Pl.has h n with _ | _
  · have HR : Hid (ancestors h n = []) := Lib.hid (by unfold ancestors; rw [if_pos hq])
    have HQ := Aside0.mk hq
    clear hr hq
    go_enter Try.func40, Try.ntmps40
    go_wp2
    refine wp_scope_once 0 (fun _ _ => False) (fun _ _ => 0) rfl (fun _ _ h => h.elim) ?_
    intro _
    go_wp2_with (go_at_call 39; (refine (has_is HH.out HQ.out).mono ?_); rintro e w' ⟨rfl, rfl⟩)
    simp only [Exit.jump]
    go_ret
    exact ⟨_, rfl, by rw [HR.out]; exact Kd.R_nil _ _ _ _ _, Below.refl _ _⟩
  · have HT : Hid (anc h (h.length + 1) n = ancestors h n) := Lib.hid (by unfold ancestors; rw [if_neg (by rw [hq]; decide)])
    have HQ := Aside0.mk hq
    have HR0 := Aside0.mk (hr hq)
    clear hr hq
    go_enter Try.func40, Try.ntmps40
    go_wp2
    refine wp_scope_once 0 (PAnc g h n w) (fun a' w' => 1000 - (match a'.tmps.getD 5 undef with | .slice _ n _ => n | _ => 0)) rfl ?_ ?_
    · rintro a' w1 ⟨hB, m, k, out, v, u6, u7, u8, u9, u10, u11, u12, u13, u14, u15, u16, u17, u18, u19, u20, u21, u22, rfl, hk, hrd, hout, hrow⟩
      have HRD := Aside0.mk hrd
      have HOUT := Aside0.mk hout
      clear hrd hout
      have HR := Aside0.mk hrow
      obtain ⟨A0, c1, rfl⟩ := Kd.R_slice hrow
      clear hrow
      have hlen : out.length ≤ 20 := by
        have h1 := congrArg List.length HOUT.out
        rw [List.length_append] at h1
        have h2 := anc_len h (h.length + 1) n
        omega
      have hsz : w.heap.size ≤ w1.heap.size := hB.size
      have hst : Try.prog.underlying 55 = some (.slice 9) := Try.underlying55
      go_wp2_with (at_builtin; go_must (refine Kd.R_append Kd.string (w0 := w) w.heap.size rfl _ _ 55 9 (.string ⟨#[]⟩) 16 rfl hst strInfo rfl (by decide) (by decide) (.slice A0 out.length c1) out m [.string m] (fun _ => True) (fun _ => False) rfl rfl rfl (fun _ h => h.elim) (fun _ _ => trivial) HR.out ?cB hsz ?cl ?ch))
      case cB => exact hB
      case cl => omega
      case ch =>
        intro v1 w2 hrow hB2 hg hat
        clear HR hat
        have H2 : HierIs w2 g h := HH.out.below hB2
        obtain ⟨_, ⟨A2, c2, hA2, hc2, hC2⟩, b2, hb2, hm2⟩ := H2
        clear hC2 hA2 hc2
        by_cases ho : m = nObject
        · have e1 := obj_eq ho
          have HO := Lib.hid ho
          have HX : Hid (out ++ [m] = ancestors h n) := Lib.hid (by
            rw [← HT.out, ← HOUT.out]
            cases k <;> simp [anc, ho])
          clear ho
          go_wp2
          simp only [Exit.jump]
          go_ret
          exact ⟨_, rfl, by rw [← HX.out]; exact hrow, hB2⟩
        · have e1 := obj_ne ho
          obtain ⟨k', rfl⟩ : ∃ k', k = k' + 1 := by
            cases k with
            | zero => have := HRD.out; simp [Pl.round, ho] at this
            | succ k' => exact ⟨k', rfl⟩
          have HX : Hid ((out ++ [m]) ++ anc h k' (sup h m) = anc h (h.length + 1) n) := Lib.hid (by
            rw [← HOUT.out]
            simp [anc, ho])
          have HD : Hid (Pl.round h k' (sup h m) = false) := Lib.hid (by
            have := HRD.out
            simpa [Pl.round, ho] using this)
          have hl := run_look (P := Try.prog) (s := m) hm2 Try.underlying102 Try.underlying9 (z := .string ⟨#[]⟩) (by kernel_rfl) false
          rw [look_strV] at hl
          simp only [Bool.false_eq_true, if_false] at hl
          have HROW := Aside0.mk hrow
          obtain ⟨A3, c3, rfl⟩ := Kd.R_slice hrow
          clear hrow
          generalize sup h m = sm at hl HX HD
          go_wp2
          go_step3
          refine ⟨rfl, ⟨hB2, sm, k', out ++ [m], _, _, _, _, _, _, _, _, _, _, _, _, _, _, _, _, _, _, rfl, by omega, HD.out, HX.out, HROW.out⟩, ?_⟩
          simp
          omega
    · intro hp
      go_wp2_with (go_at_call 39; (refine (has_is HH.out HQ.out).mono ?_); rintro e w' ⟨rfl, rfl⟩)
      go_step3
      simp only [Exit.then]
      refine (by assumption : ∀ (a : Act) (w : World), _ → _) _ _ (hp _ _ ?_)
      exact ⟨Below.refl _ _, n, h.length + 1, [], _, _, _, _, _, _, _, _, _, _, _, _, _, _, _, _, _, _, rfl, Nat.le_refl _, HR0.out, rfl, Kd.R_nil _ _ _ _ _⟩
end Go.Proofs.Ytpdjkclacbgneaa
