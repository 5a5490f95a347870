/- LocksStored, LocksWays. -/
import Derived.Test.YtpdjkclacbgneaaKC
import Derived.OpenShut
set_option linter.unusedVariables false
set_option linter.unusedSimpArgs false
namespace Go.Proofs.Ytpdjkclacbgneaa
open Go.RowKit Go.Shelf Go.Proofs.YtpdjkclacbgneaaW.PrintWords Go.Proofs.Ytpdjkclacbgneaa.Pl

def codeS (a b : Nat) : List In := [⟨38, a⟩, ⟨3, 0⟩, ⟨5, b⟩, ⟨39, a⟩]
set_option maxRecDepth 100000 in
theorem accS : ∀ a, a < 8 → ∀ b, b < 8 → goodOk (codeS a b) (decide (a ≠ b), true) = true := by decide +kernel
set_option maxRecDepth 100000 in
set_option maxHeartbeats 1000000 in
theorem stored_walk (a b : Int) (w0 : (Lit.int .u8 a).wf = true) (w1 : (Lit.int .u8 b).wf = true) (w : World) : Calls Try.prog 11 #[.int .u8 a, .int .u8 b] w fun e w' => e = .returned (.bool true) ∧ Below w.heap.size w w' := by
  obtain ⟨a1, a2⟩ := bounds_u8 w0
  obtain ⟨b1, b2⟩ := bounds_u8 w1
  go_enter Try.func11, Try.ntmps11
  go_wp2_with fail
  refine (known9_any w).mono ?_
  rintro e1 w1 ⟨rfl, hb1⟩
  have B1 := Aside0.mk hb1
  clear hb1
  obtain ⟨x, hx⟩ : ∃ x : Nat, a % 8 = x := ⟨(a % 8).toNat, by omega⟩
  obtain ⟨y, hy⟩ : ∃ y : Nat, b % 8 = y := ⟨(b % 8).toNat, by omega⟩
  have hx8 : x < 8 := by omega
  have hy8 : y < 8 := by omega
  have HL := Lib.hid (accS x hx8 y hy8)
  go_wp2_with fail
  have GA := Aside0.mk (good_is HL.out (by show 4 ≤ 100; decide) (OwnIn.lit w1 w1.heap.size (codeS x y) (by show 4 ≤ 1000; decide) (Nat.le_refl _)))
  refine GA.out.mono ?_
  rintro e2 w2 ⟨rfl, hb2⟩
  have B2 := Aside0.mk (bthen B1.out (bthen (balloc _ _) hb2))
  clear hb2 GA HL a1 a2 b1 b2
  by_cases hxy : x = y
  · have h1 : decide (x ≠ y) = false := by simp [hxy]
    have h2 : ((x : Int) != (y : Int)) = false := by rw [hxy]; simp
    rw [h1]
    clear h1
    go_wp2
    go_ret
    refine ⟨?_, B2.out⟩
    first | rfl | exact congrArg (fun q => Ending.returned (Value.bool q)) (by simp [hxy])
  · have h1 : decide (x ≠ y) = true := by simp [hxy]
    have h2 : ((x : Int) != (y : Int)) = true := by rw [bne_iff_ne]; omega
    rw [h1]
    clear h1
    go_wp2
    go_ret
    refine ⟨?_, B2.out⟩
    first | rfl | exact congrArg (fun q => Ending.returned (Value.bool q)) (by simp; omega)
/-! ### LocksWays -/
def xW (on : Bool) (n : Nat) : In := if on then ⟨38, n⟩ else ⟨0, 0⟩
def codeW (a b : Bool) (la lb : Nat) : List In := [⟨1, 0⟩, ⟨23, 4⟩, xW a la, ⟨22, 5⟩, xW b lb] ++ (if a then [⟨39, la⟩] else [])
def ansW (a b : Bool) (la lb : Nat) : Bool := (a == b) && (!a || la == lb)
set_option maxRecDepth 100000 in
theorem accW00 : goodOk (codeW false false 0 0) (ansW false false 0 0, true) = true := by decide +kernel
set_option maxRecDepth 100000 in
theorem accW10 : ∀ la, la < 8 → goodOk (codeW true false la 0) (false, true) = true := by decide +kernel
set_option maxRecDepth 100000 in
theorem accW01 : ∀ lb, lb < 8 → goodOk (codeW false true 0 lb) (false, true) = true := by decide +kernel
set_option maxRecDepth 100000 in
theorem accW11 : ∀ la, la < 8 → ∀ lb, lb < 8 → goodOk (codeW true true la lb) (ansW true true la lb, true) = true := by decide +kernel
theorem accW (a b : Bool) (la lb : Nat) (h1 : la < 8) (h2 : lb < 8) : goodOk (codeW a b la lb) (ansW a b la lb, true) = true := by
  cases a <;> cases b
  · exact accW00
  · exact accW01 lb h2
  · exact accW10 la h1
  · exact accW11 la h1 lb h2


set_option maxRecDepth 100000 in
set_option maxHeartbeats 2000000 in
theorem ways_walk (a b : Bool) (la lb : Int) (w2 : (Lit.int .u8 la).wf = true) (w3 : (Lit.int .u8 lb).wf = true) (w : World) : Calls Try.prog 12 #[.bool a, .bool b, .int .u8 la, .int .u8 lb] w fun e w' => e = .returned (.bool true) ∧ Below w.heap.size w w' := by
  obtain ⟨a1, a2⟩ := bounds_u8 w2
  obtain ⟨b1, b2⟩ := bounds_u8 w3
  obtain ⟨x, hx⟩ : ∃ x : Nat, la % 8 = x := ⟨(la % 8).toNat, by omega⟩
  obtain ⟨y, hy⟩ : ∃ y : Nat, lb % 8 = y := ⟨(lb % 8).toNat, by omega⟩
  have hx8 : x < 8 := by omega
  have hy8 : y < 8 := by omega
  have HL := Lib.hid (accW a b x y hx8 hy8)
  have HT1 : Hid (la.tmod 8 = x) := Lib.hid (by rw [Int.tmod_eq_emod_of_nonneg a1]; exact hx)
  have HT2 : Hid (lb.tmod 8 = y) := Lib.hid (by rw [Int.tmod_eq_emod_of_nonneg b1]; exact hy)
  go_enter Try.func12, Try.ntmps12
  go_wp2_with fail
  refine (known9_any w).mono ?_
  rintro e1 w1 ⟨rfl, hb1⟩
  have B1 := Aside0.mk hb1
  clear hb1
  cases a
  · cases b
    · have hs : ((w1.alloc (.cells #[.int .i64 0, .int .i64 0] 26)).alloc (.cells #[.int .i64 0, .int .i64 0] 26)).heap.size = w1.heap.size + 1 + 1 := by simp
      have BW := bthen (balloc w1 (.cells #[.int .i64 0, .int .i64 0] 26)) (balloc _ (.cells #[.int .i64 0, .int .i64 0] 26))
      have HO := OwnIn.lit ((w1.alloc (.cells #[.int .i64 0, .int .i64 0] 26)).alloc (.cells #[.int .i64 0, .int .i64 0] 26)) w1.heap.size [⟨1, 0⟩, ⟨23, 4⟩, ⟨0, 0⟩, ⟨22, 5⟩, ⟨0, 0⟩] (by show 5 ≤ 1000; decide) BW.size
      have BW2 := bthen BW (balloc _ (.cells (fli [⟨1, 0⟩, ⟨23, 4⟩, ⟨0, 0⟩, ⟨22, 5⟩, ⟨0, 0⟩]).toArray 26))
      rw [hs] at HO
      have GA := Aside0.mk (good_is HL.out (by show 5 ≤ 100; decide) HO)
      have B3 := Aside0.mk (bthen B1.out BW2)
      clear hs BW HO BW2
      go_wp2_with fail
      refine GA.out.mono ?_
      rintro e2 w4 ⟨rfl, hb4⟩
      have B4 := Aside0.mk (bthen B3.out hb4)
      clear hb4 GA HL a1 a2 b1 b2
      rw [show ansW false false x y = true from rfl]
      go_wp2
      go_ret
      exact ⟨rfl, B4.out⟩
    · have hs : ((w1.alloc (.cells #[.int .i64 0, .int .i64 0] 26)).alloc (.cells #[.int .i64 38, .int .i64 (y : Nat)] 26)).heap.size = w1.heap.size + 1 + 1 := by simp
      have BW := bthen (balloc w1 (.cells #[.int .i64 0, .int .i64 0] 26)) (balloc _ (.cells #[.int .i64 38, .int .i64 (y : Nat)] 26))
      have HO := OwnIn.lit ((w1.alloc (.cells #[.int .i64 0, .int .i64 0] 26)).alloc (.cells #[.int .i64 38, .int .i64 (y : Nat)] 26)) w1.heap.size [⟨1, 0⟩, ⟨23, 4⟩, ⟨0, 0⟩, ⟨22, 5⟩, ⟨38, (y : Nat)⟩] (by show 5 ≤ 1000; decide) BW.size
      have BW2 := bthen BW (balloc _ (.cells (fli [⟨1, 0⟩, ⟨23, 4⟩, ⟨0, 0⟩, ⟨22, 5⟩, ⟨38, (y : Nat)⟩]).toArray 26))
      rw [hs] at HO
      have GA := Aside0.mk (good_is HL.out (by show 5 ≤ 100; decide) HO)
      have B3 := Aside0.mk (bthen B1.out BW2)
      clear hs BW HO BW2
      go_wp2_with fail
      refine GA.out.mono ?_
      rintro e2 w4 ⟨rfl, hb4⟩
      have B4 := Aside0.mk (bthen B3.out hb4)
      clear hb4 GA HL a1 a2 b1 b2
      rw [show ansW false true x y = false from rfl]
      go_wp2
      go_ret
      exact ⟨rfl, B4.out⟩
  · cases b
    · have hs : ((w1.alloc (.cells #[.int .i64 38, .int .i64 (x : Nat)] 26)).alloc (.cells #[.int .i64 0, .int .i64 0] 26)).heap.size = w1.heap.size + 1 + 1 := by simp
      have BW := bthen (balloc w1 (.cells #[.int .i64 38, .int .i64 (x : Nat)] 26)) (balloc _ (.cells #[.int .i64 0, .int .i64 0] 26))
      have HO := OwnIn.lit ((w1.alloc (.cells #[.int .i64 38, .int .i64 (x : Nat)] 26)).alloc (.cells #[.int .i64 0, .int .i64 0] 26)) w1.heap.size [⟨1, 0⟩, ⟨23, 4⟩, ⟨38, (x : Nat)⟩, ⟨22, 5⟩, ⟨0, 0⟩] (by show 5 ≤ 1000; decide) BW.size
      have BW2 := bthen BW (balloc _ (.cells (fli [⟨1, 0⟩, ⟨23, 4⟩, ⟨38, (x : Nat)⟩, ⟨22, 5⟩, ⟨0, 0⟩]).toArray 26))
      obtain ⟨v1, w3, E1, h2, h3, _⟩ := app_lit [⟨39, (x : Nat)⟩] HO BW2.size (by show 5 + 1 ≤ 1000; decide)
      have GA := Aside0.mk (good_is HL.out (by show 6 ≤ 100; decide) h2)
      have B3 := Aside0.mk (bthen B1.out (BW2.trans h3))
      rw [hs] at E1
      simp only [World.size_alloc] at E1
      clear hs BW HO BW2 h2 h3
      go_wp2_with (at_builtin; refine wpList_append_E rfl _ _ _ rfl rfl rfl E1 ?_)
      clear E1
      refine GA.out.mono ?_
      rintro e2 w4 ⟨rfl, hb4⟩
      have B4 := Aside0.mk (bthen B3.out hb4)
      clear hb4 GA HL a1 a2 b1 b2
      rw [show ansW true false x y = false from rfl]
      go_wp2
      go_ret
      exact ⟨rfl, B4.out⟩
    · have hs : ((w1.alloc (.cells #[.int .i64 38, .int .i64 (x : Nat)] 26)).alloc (.cells #[.int .i64 38, .int .i64 (y : Nat)] 26)).heap.size = w1.heap.size + 1 + 1 := by simp
      have BW := bthen (balloc w1 (.cells #[.int .i64 38, .int .i64 (x : Nat)] 26)) (balloc _ (.cells #[.int .i64 38, .int .i64 (y : Nat)] 26))
      have HO := OwnIn.lit ((w1.alloc (.cells #[.int .i64 38, .int .i64 (x : Nat)] 26)).alloc (.cells #[.int .i64 38, .int .i64 (y : Nat)] 26)) w1.heap.size [⟨1, 0⟩, ⟨23, 4⟩, ⟨38, (x : Nat)⟩, ⟨22, 5⟩, ⟨38, (y : Nat)⟩] (by show 5 ≤ 1000; decide) BW.size
      have BW2 := bthen BW (balloc _ (.cells (fli [⟨1, 0⟩, ⟨23, 4⟩, ⟨38, (x : Nat)⟩, ⟨22, 5⟩, ⟨38, (y : Nat)⟩]).toArray 26))
      obtain ⟨v1, w3, E1, h2, h3, _⟩ := app_lit [⟨39, (x : Nat)⟩] HO BW2.size (by show 5 + 1 ≤ 1000; decide)
      have GA := Aside0.mk (good_is HL.out (by show 6 ≤ 100; decide) h2)
      have B3 := Aside0.mk (bthen B1.out (BW2.trans h3))
      rw [hs] at E1
      simp only [World.size_alloc] at E1
      clear hs BW HO BW2 h2 h3
      go_wp2_with (at_builtin; refine wpList_append_E rfl _ _ _ rfl rfl rfl E1 ?_)
      clear E1
      refine GA.out.mono ?_
      rintro e2 w4 ⟨rfl, hb4⟩
      have B4 := Aside0.mk (bthen B3.out hb4)
      clear hb4 GA HL a1 a2 b1 b2
      by_cases hxy : x = y
      · have h1 : ansW true true x y = true := by simp [ansW, hxy]
        have h2 : ((x : Int) == (y : Int)) = true := by rw [hxy]; simp
        rw [h1]
        clear h1
        go_wp2
        go_ret
        refine ⟨?_, B4.out⟩
        first | rfl | exact congrArg (fun q => Ending.returned (Value.bool q)) (by simp [HT1.out, HT2.out, hxy])
      · have h1 : ansW true true x y = false := by simp [ansW, hxy]
        have h2 : ((x : Int) == (y : Int)) = false := by rw [beq_eq_false_iff_ne]; omega
        rw [h1]
        clear h1
        go_wp2
        go_ret
        refine ⟨?_, B4.out⟩
        first | rfl | exact congrArg (fun q => Ending.returned (Value.bool q)) (by simp [HT1.out, HT2.out]; omega)
end Go.Proofs.Ytpdjkclacbgneaa
