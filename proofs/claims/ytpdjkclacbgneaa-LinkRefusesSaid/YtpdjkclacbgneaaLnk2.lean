/- link.same. -/
import Derived.Test.YtpdjkclacbgneaaLnk1
import Derived.Laws.StructEq
set_option linter.unusedVariables false
set_option linter.unusedSimpArgs false
namespace Go.Proofs.Ytpdjkclacbgneaa
open Go.RowKit Go.Shelf Go.Proofs.YtpdjkclacbgneaaW.PrintWords Go.Proofs.Ytpdjkclacbgneaa.Pl

set_option maxRecDepth 100000 in
theorem eqTy (a b : Int) (s t : ByteArray) (w : World) : (Op.equalIn 10000 48 (.agg #[.int .i64 a, .string s]) (.agg #[.int .i64 b, .string t])).run Try.prog w = .ok (a == b && s.toList == t.toList) w := by
  have u3 := Try.underlying3
  have a3 := Try.isAgg3
  have z3 := Try.sizeOf3
  have u9 := Try.underlying9
  have a9 := Try.isAgg9
  have z9 := Try.sizeOf9
  have hS : Try.prog.underlying 48 = some (.struct (Try.prog.fieldsOf 48)) := by kernel_rfl
  have hp : Try.prog.stoodInHeld 48 = false := by kernel_rfl
  rw [show (10000 : Nat) = 9999 + 1 from rfl, run_equalIn_agg w 9999 48 _ _ hS hp]
  simp only [Program.fieldsOf, Try.underlying48]
  go_simp
  by_cases h1 : a = b <;> by_cases h2 : s.toList = t.toList <;> simp [h1, h2]
theorem eqTy' (x y : Ty) (w : World) : (Op.equalIn 10000 48 (.agg #[.int .i64 x.kind, .string x.cls]) (.agg #[.int .i64 y.kind, .string y.cls])).run Try.prog w = .ok (decide (x = y)) w := by
  rw [eqTy]
  congr 1
  obtain ⟨a, s⟩ := x
  obtain ⟨b, t⟩ := y
  simp only
  by_cases h1 : a = b
  · by_cases h2 : s = t
    · rw [h1, str_eq h2, h2]; simp
    · rw [h1, str_ne h2]; simp [h2]
  · have : (a == b) = false := by rw [beq_eq_false_iff_ne]; exact h1
    rw [this]
    simp [h1]
theorem decide_list {α : Type} [DecidableEq α] {l m : List α} (h : l.length = m.length) (hq : ∀ (j : Nat) x y, l[j]? = some x → m[j]? = some y → x = y) : l = m := by
  apply List.ext_getElem h
  intro j h1 h2
  exact hq j _ _ (List.getElem?_eq_getElem h1) (List.getElem?_eq_getElem h2)
set_option maxHeartbeats 400000 in
set_option maxRecDepth 10000 in
theorem equalTy_any (l m : List Ty) (A B : Option Addr) (c d : Nat) (w : World) (hl : tyK.C w A l.length l) (hm : tyK.C w B m.length m) :
    Calls Try.prog 77 #[.slice A l.length c, .slice B m.length d] w fun e w' => e = .returned (.bool (decide (l = m))) ∧ Below w.heap.size w w' := by
  have CL := cells_ty hl
  have CM := cells_ty hm
  clear hl hm
  by_cases hn : l.length = m.length
  rotate_left
  · have hu : decide (l = m) = false := decide_eq_false fun e => hn (by rw [e])
    rw [hu]
    have hz : ((l.length : Int) == (m.length : Int)) = false := by rw [beq_eq_false_iff_ne]; omega
    have hz2 : (l.length == m.length) = false := by rw [beq_eq_false_iff_ne]; exact hn
    clear hu
    go_enter Try.func77, Try.ntmps77
    go_wp2
    go_ret
    exact ⟨rfl, Below.refl _ _⟩
  obtain ⟨n, hl⟩ : ∃ n, l.length = n := ⟨_, rfl⟩
  have hm : m.length = n := by omega
  rw [hl] at CL ⊢
  rw [hm] at CM ⊢
  have HL := Lib.hid hl
  have HM := Lib.hid hm
  clear hn hl hm
  have hmax := CL.1
  obtain ⟨q, hq⟩ : ∃ q, decide (l = m) = q := ⟨_, rfl⟩
  rw [hq]
  have HQ := Lib.hid hq
  have heq := eqTy'
  clear hq
  go_enter Try.func77, Try.ntmps77
  go_wp2
  go_loopw [13] (fun s13 wr => ∃ kk : Nat, kk ≤ n ∧ s13 = .int .i64 kk ∧ Aside0 (Below w.heap.size w wr) ∧ Aside0 (∀ j x y, j < kk → l[j]? = some x → m[j]? = some y → x = y)) (fun s _ => n - (intOf s).toNat)
  case atStart => exact ⟨0, Nat.zero_le _, rfl, ⟨Below.refl _ _⟩, ⟨fun j _ _ hj => absurd hj (Nat.not_lt_zero _)⟩⟩
  case round =>
    obtain ⟨kk, hkk, rfl, BW, HE⟩ := hrel
    by_cases hlt : kk < n
    · have hltz : (kk : Int) < (n : Int) := by omega
      have CW := CL.below BW.out
      have DW := CM.below BW.out
      obtain ⟨ad, rfl, had⟩ := CW.2 (by omega)
      obtain ⟨ae, rfl, had2⟩ := DW.2 (by omega)
      clear had had2
      generalize hx : l.getD kk default = x
      generalize hy : m.getD kk default = y
      have HX : Aside0 (l[kk]? = some x) := ⟨by rw [← hx]; exact getD_some _ (by have := HL.out; omega)⟩
      have HY : Aside0 (m[kk]? = some y) := ⟨by rw [← hy]; exact getD_some _ (by have := HM.out; omega)⟩
      have l0 := CW.at0 hlt (v := .int .i64 x.kind) (by rw [← hx]; rfl)
      have l1 := CW.at_ hlt (i := 1) (by decide) (v := .string x.cls) (by rw [← hx]; rfl)
      have m0 := DW.at0 hlt (v := .int .i64 y.kind) (by rw [← hy]; rfl)
      have m1 := DW.at_ hlt (i := 1) (by decide) (v := .string y.cls) (by rw [← hy]; rfl)
      clear hx hy
      have hqq := fun w => heq x y w
      by_cases hxy : x = y
      · have HE2 : Aside0 (∀ j x y, j < kk + 1 → l[j]? = some x → m[j]? = some y → x = y) := ⟨fun j a b hj ha hb => by
          rcases Nat.lt_succ_iff_lt_or_eq.1 hj with h | h
          · exact HE.out j a b h ha hb
          · subst h
            rw [HX.out] at ha
            rw [HY.out] at hb
            cases ha
            cases hb
            exact hxy⟩
        rw [decide_eq_true hxy] at hqq
        clear hxy heq
        go_wp2_with fail
        go_quiet (fail)
        go_wp2
        go_roundw
        case rel => exact ⟨kk + 1, by omega, by go_num, ⟨pw_below_drewN BW.out _⟩, HE2⟩
        case measure => simp [intOf]; omega
      · have HR : Hid (q = false) := Lib.hid (by
          rw [← HQ.out]
          refine decide_eq_false fun e => hxy ?_
          have h1 := HX.out
          rw [e, HY.out] at h1
          cases h1
          rfl)
        rw [decide_eq_false hxy] at hqq
        clear hxy heq
        go_wp2_with fail
        go_quiet (fail)
        go_wp2
        go_ret
        exact ⟨by rw [HR.out]; rfl, pw_below_drewN BW.out _⟩
    · have hltz : ¬ (kk : Int) < (n : Int) := by omega
      have HR : Hid (q = true) := Lib.hid (by
        rw [← HQ.out]
        refine decide_eq_true (decide_list (by rw [HL.out, HM.out]) fun j x y hx hy => HE.out j x y ?_ hx hy)
        have := (List.getElem?_eq_some_iff.1 hx).1
        have := HL.out
        omega)
      go_wp2
      go_ret
      exact ⟨by rw [HR.out]; rfl, BW.out⟩
theorem equalTy_is {l m : List Ty} {A B : Option Addr} {c d : Nat} {w : World} (hl : tyK.C w A l.length l) (hm : tyK.C w B m.length m) {q : Bool} (hq : decide (l = m) = q) :
    Calls Try.prog 77 #[.slice A l.length c, .slice B m.length d] w fun e w' => e = .returned (.bool q) ∧ Below w.heap.size w w' := by
  have := equalTy_any l m A B c d w hl hm
  rwa [hq] at this
set_option maxHeartbeats 400000 in
set_option maxRecDepth 10000 in
theorem same_any (a b : Mt) (ca cb : List Value) (w : World) (ha : mtK.K w a ca) (hb : mtK.K w b cb) :
    Calls Try.prog 66 #[.agg ca.toArray, .agg cb.toArray] w fun e w' => e = .returned (.bool (sameM a b)) ∧ Below w.heap.size w w' := by
  obtain ⟨B0, d0, B1, d1, B2, d2, rfl, _, s0, _, _⟩ := mtK_open ha
  obtain ⟨E0, e0, E1, e1, E2, e2, rfl, _, t0, _, _⟩ := mtK_open hb
  have heq := fun w => eqTy' a.ret b.ret w
  have HU : Hid (sameM a b = (decide (a.params = b.params) && decide (a.ret = b.ret))) := Lib.hid rfl
  generalize sameM a b = res at *
  clear ha hb
  rcases hq1 : decide (a.params = b.params) with _ | _
  all_goals rcases hq2 : decide (a.ret = b.ret) with _ | _
  all_goals
    have HR := HU.out
    rw [hq1, hq2] at HR
    rw [hq2] at heq
    rw [HR]
    have HQ := Aside0.mk hq1
    clear HU HR hq1 hq2
    go_enter Try.func66, Try.ntmps66
    go_wp2_with fail
    refine (equalTy_is (Kd.C_below s0 (bthen (balloc _ _) (balloc _ _))) (Kd.C_below t0 (bthen (balloc _ _) (balloc _ _))) HQ.out).mono ?_
    rintro e W ⟨rfl, hb⟩
    obtain ⟨hW, b0, b1⟩ := box2 hb
    obtain ⟨x0, x1, x2, x3, x4, x5, x6, x7⟩ := Bx.eight ⟨b0⟩
    obtain ⟨y0, y1, y2, y3, y4, y5, y6, y7⟩ := Bx.eight ⟨b1⟩
    clear b0 b1 hb
    go_wp2
    go_ret
    exact ⟨rfl, hW⟩
theorem same_is {a b : Mt} {ca cb : List Value} {w : World} (ha : mtK.K w a ca) (hb : mtK.K w b cb) {q : Bool} (hq : sameM a b = q) :
    Calls Try.prog 66 #[.agg ca.toArray, .agg cb.toArray] w fun e w' => e = .returned (.bool q) ∧ Below w.heap.size w w' := by
  have := same_any a b ca cb w ha hb
  rwa [hq] at this
end Go.Proofs.Ytpdjkclacbgneaa
