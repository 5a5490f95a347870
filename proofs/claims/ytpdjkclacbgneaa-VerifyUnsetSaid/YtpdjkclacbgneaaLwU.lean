/- VerifyUnset. -/
import Derived.Test.YtpdjkclacbgneaaLwM
import Derived.BigRegion
set_option linter.unusedVariables false
set_option linter.unusedSimpArgs false
namespace Go.Proofs.Ytpdjkclacbgneaa
open Go.RowKit Go.Shelf Go.Proofs.YtpdjkclacbgneaaW.PrintWords Go.Proofs.Ytpdjkclacbgneaa.Pl

def setU (on cplx : Bool) : In × In := if on then (if cplx then (⟨2, 1⟩, ⟨5, 1⟩) else (⟨1, 0⟩, ⟨5, 1⟩)) else (⟨0, 0⟩, ⟨0, 0⟩)
def setCs (on cplx : Bool) : Array Value := #[.int .i64 (setU on cplx).1.op, .int .i64 (setU on cplx).1.a, .int .i64 (setU on cplx).2.op, .int .i64 (setU on cplx).2.a]
theorem set_un (on cplx : Bool) (w : World) : Calls Try.prog 16 #[.bool on, .bool cplx] w fun e w' => ∃ g, e = .returned (.slice (some ⟨g, 0, none⟩) 2 2) ∧ w'.heap[g]? = some (.cells (setCs on cplx) 26 (0, 0)) ∧ Below w.heap.size w w' := by
  cases on <;> cases cplx
  all_goals
    go_enter Try.func16, Try.ntmps16
    go_wp2
    go_ret
    exact ⟨_, rfl, blk_new _ _, balloc _ _⟩
def codeU (one other same : Bool) : List In := [⟨1, 0⟩, ⟨23, 5⟩, (setU one false).1, (setU one false).2, ⟨22, 7⟩, (setU other !same).1, (setU other !same).2, ⟨4, 1⟩, ⟨6, 0⟩, ⟨33, 0⟩]
set_option maxRecDepth 100000 in
theorem accU : ∀ one other same, accOk (codeU one other same) poolM (one && (other && same), true) = true := by decide +kernel
theorem four_cells {w : World} {g : Nat} {a b c d : Value} {t : TypeId} (h : w.heap[g]? = some (.cells #[a, b, c, d] t (0, 0))) : w.cell? ⟨g, 0, none⟩ = some a ∧ w.cell? ⟨g, 1, none⟩ = some b ∧ w.cell? ⟨g, 2, none⟩ = some c ∧ w.cell? ⟨g, 3, none⟩ = some d :=
  ⟨Bx.cell ⟨h⟩ (j := 0) rfl, Bx.cell ⟨h⟩ (j := 1) rfl, Bx.cell ⟨h⟩ (j := 2) rfl, Bx.cell ⟨h⟩ (j := 3) rfl⟩
set_option maxRecDepth 100000 in
set_option maxHeartbeats 2000000 in
theorem unset_walk (one other same : Bool) (w : World) : Calls Try.prog 5 #[.bool one, .bool other, .bool same] w fun e w' => e = .returned (.bool true) ∧ Below w.heap.size w w' := by
  have HL := Lib.hid (accU one other same)
  go_enter Try.func5, Try.ntmps5
  go_wp2_with fail
  refine (known_any w).mono ?_
  rintro e1 w1 ⟨rfl, hb1⟩
  have B1 := Aside0.mk hb1
  clear hb1
  go_wp2_with fail
  refine (set_un one false _).mono ?_
  rintro e2 w2 ⟨g2, rfl, hg2, hb2⟩
  have G2 := Aside0.mk hg2
  have B2 := Aside0.mk hb2
  clear hg2 hb2
  go_wp2_with fail
  refine (set_un other (!same) _).mono ?_
  rintro e3 w3 ⟨g3, rfl, hg3, hb3⟩
  have G3 := Aside0.mk hg3
  have B3 := Aside0.mk (bthen B2.out hb3)
  have hg2 := blk_below G2.out hb3
  unfold setCs at hg2 hg3
  obtain ⟨a0, a1, a2, a3⟩ := four_cells hg2
  obtain ⟨b0, b1, b2, b3⟩ := four_cells hg3
  generalize hX0 : (setU one false).1.op = X0 at *
  generalize hX1 : (setU one false).1.a = X1 at *
  generalize hX2 : (setU one false).2.op = X2 at *
  generalize hX3 : (setU one false).2.a = X3 at *
  generalize hY0 : (setU other !same).1.op = Y0 at *
  generalize hY1 : (setU other !same).1.a = Y1 at *
  generalize hY2 : (setU other !same).2.op = Y2 at *
  generalize hY3 : (setU other !same).2.a = Y3 at *
  have EX : Hid (codeU one other same = [⟨1, 0⟩, ⟨23, 5⟩, ⟨X0, X1⟩, ⟨X2, X3⟩, ⟨22, 7⟩, ⟨Y0, Y1⟩, ⟨Y2, Y3⟩, ⟨4, 1⟩, ⟨6, 0⟩, ⟨33, 0⟩]) := Lib.hid (by unfold codeU; rw [← hX0, ← hX1, ← hX2, ← hX3, ← hY0, ← hY1, ← hY2, ← hY3])
  have hcn : cnK.C w3 (some ⟨w1.heap.size, 0, none⟩) poolM.length poolM := pool_is (blk_below (blk_new w1 (.cells (cnCs ⟨1, 0, 0, 0, nil, nil⟩ ++ cnCs ⟨2, 0, 0, 0, nil, nil⟩).toArray 32)) B3.out)
  have HCN := Aside0.mk hcn
  clear hX0 hX1 hX2 hX3 hY0 hY1 hY2 hY3 hg2 hg3 hb3 hcn
  go_wp2_with fail
  go_region
  have hd := below_drew (Below.refl w3.heap.size w3)
  have ho := HL.out
  rw [EX.out] at ho
  have AC := Aside0.mk (accepted_is (u := .slice (some ⟨w1.heap.size, 0, none⟩) 2 2) ho ((OwnIn.lit w3 w3.heap.size [⟨1, 0⟩, ⟨23, 5⟩, ⟨X0, X1⟩, ⟨X2, X3⟩, ⟨22, 7⟩, ⟨Y0, Y1⟩, ⟨Y2, Y3⟩, ⟨4, 1⟩, ⟨6, 0⟩, ⟨33, 0⟩] (by show 10 ≤ 1000; decide) (Nat.le_refl _)).below (below_drew (Below.refl _ _))) rfl (Nat.le_refl _) (Kd.C_below (Kd.C_below HCN.out (balloc w3 _)) (below_drew (Below.refl _ _))))
  clear ho hd a0 a1 a2 a3 b0 b1 b2 b3
  go_wp2_with fail
  refine AC.out.mono ?_
  rintro e4 w4 ⟨rfl, hb4⟩
  have HB4 := Aside0.mk (bthen B1.out (bthen (balloc _ _) (bthen B3.out (bthen (bthen (balloc _ _) (below_drew (Below.refl _ _))) hb4))))
  clear hb4 HL AC EX
  go_wp2
  all_goals
    go_ret
    refine ⟨?_, HB4.out⟩
    cases one <;> cases other <;> cases same <;> rfl
end Go.Proofs.Ytpdjkclacbgneaa
