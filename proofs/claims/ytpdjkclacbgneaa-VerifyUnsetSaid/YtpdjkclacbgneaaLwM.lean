/- VerifyMixes, VerifyUnset: the pool and the closures. -/
import Derived.Test.YtpdjkclacbgneaaLw3
import Derived.OpenShut
set_option linter.unusedVariables false
set_option linter.unusedSimpArgs false
namespace Go.Proofs.Ytpdjkclacbgneaa
open Go.RowKit Go.Shelf Go.Proofs.YtpdjkclacbgneaaW.PrintWords Go.Proofs.Ytpdjkclacbgneaa.Pl

theorem cnK_cs (w : World) (c : Cn) : cnK.K w c (cnCs c) := ⟨[.int .i64 c.kind], _, rfl, rfl, [.int .i64 c.int], _, rfl, rfl, [.complex .f64 c.re c.im], _, rfl, rfl, [.string c.cls], [.string c.name], rfl, rfl, rfl⟩
/-- A row of two elements. -/
theorem row_two {α : Type} (d : Kd α) {w : World} {g : Nat} {t : TypeId} {x y : α} {cs ds : List Value} (h : w.heap[g]? = some (.cells (cs ++ ds).toArray t (0, 0))) (hx : d.K w x cs) (hy : d.K w y ds) : d.C w (some ⟨g, 0, none⟩) 2 [x, y] :=
  ⟨rfl, by omega, fun _ => ⟨_, rfl, fun j p hj => by
    have hc := d.K_len hx
    have hj2 : j < 2 := (List.getElem?_eq_some_iff.1 hj).1
    rcases (by omega : j = 0 ∨ j = 1) with rfl | rfl
    · cases hj
      refine ⟨cs, hc, hx, fun i u hu => ?_⟩
      rw [add_zero_off]
      have hi := (List.getElem?_eq_some_iff.1 hu).1
      exact Bx.cell ⟨h⟩ (by rw [Nat.zero_mul, Nat.zero_add, List.getElem?_toArray, List.getElem?_append_left hi]; exact hu)
    · cases hj
      refine ⟨ds, d.K_len hy, hy, fun i u hu => ?_⟩
      rw [add_zero_off]
      exact Bx.cell ⟨h⟩ (by rw [List.getElem?_toArray, List.getElem?_append_right (by omega), show 1 * d.sz + i - cs.length = i by omega]; exact hu)⟩⟩
def poolM : List Cn := [⟨1, 0, 0, 0, nil, nil⟩, ⟨2, 0, 0, 0, nil, nil⟩]
theorem pool_is {w : World} {g : Nat} (h : w.heap[g]? = some (.cells (cnCs ⟨1, 0, 0, 0, nil, nil⟩ ++ cnCs ⟨2, 0, 0, 0, nil, nil⟩).toArray 32 (0, 0))) : cnK.C w (some ⟨g, 0, none⟩) poolM.length poolM := row_two cnK h (cnK_cs w _) (cnK_cs w _)
def pushM (c : Bool) : In := if c then ⟨2, 1⟩ else ⟨1, 0⟩
set_option maxHeartbeats 400000 in
theorem push_mix (c : Bool) (w : World) : Calls Try.prog 15 #[.bool c] w fun e w' => e = .returned (.agg #[.int .i64 (pushM c).op, .int .i64 (pushM c).a]) ∧ Below w.heap.size w w' := by
  cases c
  · go_enter Try.func15, Try.ntmps15
    go_wp2
    refine bodyPost_ret (results_cell_row rfl _ _ _ _ _ _ _ rfl (blk_new _ _) Try.underlying26 rfl (by kernel_rfl)) rfl ?_
    exact ⟨rfl, balloc _ _⟩
  · go_enter Try.func15, Try.ntmps15
    go_wp2
    refine bodyPost_ret (results_cell_row rfl _ _ _ _ _ _ _ rfl (blk_new _ _) Try.underlying26 rfl (by kernel_rfl)) rfl ?_
    exact ⟨rfl, balloc _ _⟩
def opM (k : Nat) : Int := [8, 16, 14, 20, 10, 18].getD k 0
def outM (k : Nat) : Int := if opM k = 16 ∨ opM k = 18 then 47 else 46
def cplxM (k : Nat) : Bool := decide (opM k = 16 ∨ opM k = 20 ∨ opM k = 18)
def codeM (k : Nat) (a b : Bool) : List In := [pushM a, pushM b, ⟨opM k, 0⟩, ⟨outM k, 0⟩, ⟨33, 0⟩]
set_option maxRecDepth 100000 in
theorem accM : ∀ k, k < 6 → ∀ a b, accOk (codeM k a b) poolM ((a == cplxM k) && (b == cplxM k), true) = true := by decide +kernel
set_option maxRecDepth 100000 in
set_option maxHeartbeats 2000000 in
theorem mixes_walk (a b : Bool) (op : Int) (w2 : (Lit.int .u8 op).wf = true) (w : World) : Calls Try.prog 4 #[.bool a, .bool b, .int .u8 op] w fun e w' => e = .returned (.bool true) ∧ Below w.heap.size w w' := by
  obtain ⟨o1, o2⟩ := bounds_u8 w2
  obtain ⟨k, hk⟩ : ∃ k : Nat, op % 6 = k := ⟨(op % 6).toNat, by omega⟩
  have hk6 : k < 6 := by omega
  have HL := Lib.hid (accM k hk6 a b)
  clear w2
  go_enter Try.func4, Try.ntmps4
  go_wp2_with fail
  refine (known_any w).mono ?_
  rintro e1 w1 ⟨rfl, hb1⟩
  have B1 := Aside0.mk hb1
  clear hb1
  rcases (by omega : k = 0 ∨ k = 1 ∨ k = 2 ∨ k = 3 ∨ k = 4 ∨ k = 5) with rfl | rfl | rfl | rfl | rfl | rfl
  all_goals
    push_cast at hk
    go_wp2_with fail
    refine (push_mix a _).mono ?_
    rintro e2 w2 ⟨rfl, hb2⟩
    have HB2 := Aside0.mk hb2
    clear hb2
    go_wp2_with fail
    refine (push_mix b _).mono ?_
    rintro e3 w3 ⟨rfl, hb3⟩
    have HB3 := Aside0.mk (bthen HB2.out hb3)
    clear hb3
    go_wp2_with fail
    have hcn : cnK.C w3 (some ⟨w1.heap.size, 0, none⟩) poolM.length poolM := pool_is (blk_below (blk_alloc (blk_new w1 (.cells (cnCs ⟨1, 0, 0, 0, nil, nil⟩ ++ cnCs ⟨2, 0, 0, 0, nil, nil⟩).toArray 32)) _) HB3.out)
    have AC := accepted_is (u := .slice (some ⟨w1.heap.size, 0, none⟩) 2 2) HL.out (OwnIn.lit w3 w3.heap.size (codeM _ a b) (by show 5 ≤ 1000; decide) (Nat.le_refl _)) rfl (Nat.le_refl _) (Kd.C_below hcn (balloc _ _))
    refine AC.mono ?_
    clear AC hcn
    rintro e4 w4 ⟨rfl, hb4⟩
    have HB4 := Aside0.mk (bthen B1.out (bthen (bthen (balloc _ _) (balloc _ _)) (bthen HB3.out (bthen (balloc _ _) hb4))))
    clear hb4 HL
    go_wp2
    all_goals
      go_ret
      refine ⟨?_, HB4.out⟩
      first | (cases b <;> rfl) | (cases a <;> cases b <;> rfl)
end Go.Proofs.Ytpdjkclacbgneaa
