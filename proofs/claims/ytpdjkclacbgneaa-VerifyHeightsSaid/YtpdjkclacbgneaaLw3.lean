/- loomlaw8: known. -/
import Derived.Test.YtpdjkclacbgneaaLw2
set_option linter.unusedVariables false
set_option linter.unusedSimpArgs false
namespace Go.Proofs.Ytpdjkclacbgneaa
open Go.RowKit Go.Shelf Go.Proofs.YtpdjkclacbgneaaW.PrintWords Go.Proofs.Ytpdjkclacbgneaa.Pl

def pA : Pg := (Pl.link (ofC codeA [])).2
def pB : Pg := (Pl.link (ofC codeB [])).2
def mA : Mt := ⟨nmain, [], ⟨0, nil⟩, 3, 3, codeA, []⟩
def mB : Mt := ⟨nmain, [], ⟨0, nil⟩, 3, 3, codeB, []⟩
def stsA : List St := [⟨true, [refT nMain, kindT 6, kindT 6], []⟩, ⟨true, [refT nMain, kindT 6, kindT 6], [kindT 5]⟩, ⟨true, [refT nMain, kindT 5, kindT 6], []⟩]
theorem linkA : (Pl.link (ofC codeA [])).1 = 0 := by decide +kernel
theorem linkB : (Pl.link (ofC codeB [])).1 = 0 := by decide +kernel
theorem okA : okB pA = true := by decide +kernel
theorem okBB : okB pB = true := by decide +kernel
theorem findA : (clsOf pA nMain).methods.find? (fun m => decide (m.name = nmain)) = some mA := by decide +kernel
theorem findB : (clsOf pB nMain).methods.find? (fun m => decide (m.name = nmain)) = some mB := by decide +kernel
theorem passA : passes pA (clsOf pA nMain) mA 100 (vstart pA nMain mA) = some (0, stsA) := by decide +kernel
theorem passB : passes pB (clsOf pB nMain) mB 100 (vstart pB nMain mB) = some (80, []) := by decide +kernel
theorem allB : vall pB 100 = some 80 := by decide +kernel
/-- A program of loomlaw8, made and linked. -/
theorem made_any (code : List In) (w : World) (hl : code.length ≤ 1000) : Calls Try.prog 25 #[.slice (some ⟨w.heap.size, 0, none⟩) code.length code.length, .slice none 0 0] (w.alloc (.cells (fli code).toArray 26)) fun e w' => ∃ B, e = .returned (.slice B 1 1) ∧ clK.C w' B 1 (ofC code []) ∧ Below w.heap.size w w' := by
  obtain ⟨A, c, hv, hc, hC⟩ := (OwnIn.lit w w.heap.size code hl (Nat.le_refl _)).reads
  cases hv
  refine (of_any code [] _ none _ 0 _ hc hC (Nat.le_refl _) (row_none _ _)).mono ?_
  rintro e w' ⟨B, h1, h2, h3⟩
  exact ⟨B, h1, h2, bthen (balloc _ _) h3⟩
theorem linked_any (code : List In) (B : Option Addr) (w : World) (hC : clK.C w B 1 (ofC code [])) (h0 : (Pl.link (ofC code [])).1 = 0) : Calls Try.prog 18 #[.slice B 1 1] w fun e w' => ∃ pb, e = .returned (.tuple #[.pointer (some ⟨pb, 0, none⟩), .int .i64 0]) ∧ ProgIs w' pb (Pl.link (ofC code [])).2 ∧ Below w.heap.size w w' := by
  refine (link_any (ofC code []) B 1 w hC (by show 1 ≤ 900; decide) ?_).mono ?_
  · rintro ⟨c1, hc1, x, hx, h3⟩
    rw [ofC, List.mem_singleton] at hc1
    subst hc1
    exact absurd hx List.not_mem_nil
  · rintro e w' ⟨pp, h1, h2, _, h4⟩
    obtain ⟨pb, rfl, hp⟩ := h2 h0
    exact ⟨pb, by rw [h1, h0], hp, h4⟩
set_option maxRecDepth 100000 in
set_option maxHeartbeats 1000000 in
theorem known_any (w : World) : Calls Try.prog 13 #[] w fun e w' => e = .returned (.bool true) ∧ Below w.heap.size w w' := by
  go_enter Try.func13, Try.ntmps13
  go_wp2_with fail
  refine (made_any codeA w (by decide)).mono ?_
  rintro e1 w1 ⟨B1, rfl, hC, hb1⟩
  have LA := Aside0.mk (linked_any codeA B1 w1 hC linkA)
  have B1 := Aside0.mk hb1
  clear hC hb1
  go_wp2_with fail
  refine LA.out.mono ?_
  rintro e2 w2 ⟨pb, rfl, hp, hb2⟩
  have B2 := Aside0.mk (bthen B1.out hb2)
  have HP := Aside0.mk hp
  clear hp hb2 LA
  go_wp2_with fail
  refine (made_any codeB w2 (by decide)).mono ?_
  rintro e1 w3 ⟨B3, rfl, hC, hb3⟩
  have LB := Aside0.mk (linked_any codeB B3 w3 hC linkB)
  have HP := Aside0.mk (HP.out.below hb3)
  have B3 := Aside0.mk (bthen B2.out hb3)
  clear hC hb3
  go_wp2_with fail
  refine LB.out.mono ?_
  rintro e2 w4 ⟨qb, rfl, hq, hb4⟩
  have HP := Aside0.mk (HP.out.below hb4)
  have HQ := Aside0.mk hq
  have B4 := Aside0.mk (bthen B3.out hb4)
  clear hq hb4 LB
  go_wp2_with fail
  obtain ⟨nA, a1, a2, a3, a4⟩ := (okB_all okA).1 nMain nmain mA findA
  refine (vmethod_any w4 pb pA nMain nmain HP.out mA findA nA a1 a2 a3 a4 100 0 stsA passA).mono ?_
  rintro e5 w5 ⟨v5, rfl, hb5, h5, _⟩
  obtain ⟨fb, lb, ch, rfl, hF⟩ := h5 rfl
  rw [show stsA.length = 3 from rfl]
  obtain ⟨L0, S0, o1, _, _, k1, _, _, _⟩ := hF.st (i := 2) (s := ⟨true, [refT nMain, kindT 5, kindT 6], []⟩) rfl
  obtain ⟨AL, cL, rfl, _, hT⟩ := o1.reads
  have CC := cells_ty hT
  obtain ⟨al, rfl, _⟩ := CC.2 (by decide)
  obtain ⟨ga, hga, _⟩ := own_slot o1 rfl (k := 1) (by decide)
  cases hga
  have t0 := CC.at0 (j := 1) (by decide) (v := .int .i64 5) rfl
  have HQ := Aside0.mk (HQ.out.below hb5)
  have B5 := Aside0.mk (bthen B4.out hb5)
  rw [add_zero_off] at t0
  have K1 := Aside0.mk k1
  have T0 := Aside0.mk t0
  clear a1 a2 a3 a4 hb5 hF o1 k1 hT CC t0
  go_wp2_with fail
  obtain ⟨nB, a1, a2, a3, a4⟩ := (okB_all okBB).1 nMain nmain mB findB
  refine (vmethod_any w5 qb pB nMain nmain HQ.out mB findB nB a1 a2 a3 a4 100 80 [] passB).mono ?_
  rintro e6 w6 ⟨v6, rfl, hb6, _, h6⟩
  have k1 : w6.cell? ⟨lb, 9, none⟩ = some (.slice (some ⟨ga, 0, none⟩) 3 cL) := pw_cell_below hb6 K1.out
  have t0 : w6.cell? ⟨ga, 2, none⟩ = some (.int .i64 5) := pw_cell_below hb6 T0.out
  have B6 := Aside0.mk (bthen B5.out hb6)
  have VA := Aside0.mk (vall_any w6 qb pB (HQ.out.below hb6) (okB_all okBB).1 (okB_all okBB).2 100 80 allB)
  clear hb6 h6 a1 a2 a3 a4
  go_wp2_with fail
  refine VA.out.mono ?_
  rintro e7 w7 ⟨rfl, hb7⟩
  have B7 := Aside0.mk (bthen B6.out hb7)
  go_wp2
  go_ret
  exact ⟨rfl, B7.out⟩
end Go.Proofs.Ytpdjkclacbgneaa
