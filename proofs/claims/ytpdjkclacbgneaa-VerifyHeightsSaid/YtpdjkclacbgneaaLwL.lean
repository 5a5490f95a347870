/- VerifyLoops. -/
import Derived.Test.YtpdjkclacbgneaaLw3
import Derived.OpenShut
set_option linter.unusedVariables false
set_option linter.unusedSimpArgs false
namespace Go.Proofs.Ytpdjkclacbgneaa
open Go.RowKit Go.Shelf Go.Proofs.YtpdjkclacbgneaaW.PrintWords Go.Proofs.Ytpdjkclacbgneaa.Pl

def codeL (a b : Nat) : List In := List.replicate a ⟨3, 0⟩ ++ List.replicate b ⟨6, 0⟩ ++ [⟨22, 0⟩]
set_option maxRecDepth 100000 in
theorem accL : ∀ a, a < 4 → ∀ b, b < 4 → accOk (codeL a b) [] (decide (a = b), true) = true := by decide +kernel
/-- An instruction appended to a row of the call's own: made ahead. -/
theorem app_one {B : Nat} {W : World} {v : Value} {l : List In} (op : Int) (h : OwnIn B W v l) (hB : B ≤ W.heap.size) (hl : l.length ≤ 1000) : ∃ v1 w1, (Builtin.append_ #[24, 24] 24 #[v, .slice (some ⟨W.heap.size, 0, none⟩) 1 1]).run Try.prog (W.alloc (.cells #[.int .i64 op, .int .i64 0] 26)) = .ok v1 w1 ∧ OwnIn B w1 v1 (l ++ [⟨op, 0⟩]) ∧ Below B W w1 := by
  obtain ⟨v1, w1, h1, h2, h3⟩ := app_in 24 (t := ⟨op, 0⟩) (h.below (balloc W (.cells #[.int .i64 op, .int .i64 0] 26))) (Nat.le_trans hB (balloc W _).size) (blk_new W _) hl
  exact ⟨v1, w1, h1, h2, pw_below_grown ((balloc W _).mono hB) _ (Nat.le_trans hB (balloc W _).size) h3 (fun k hk => own_base h k hk)⟩
set_option maxRecDepth 100000 in
set_option maxHeartbeats 1000000 in
theorem loops_walk (a b : Int) (w0 : (Lit.int .u8 a).wf = true) (w1 : (Lit.int .u8 b).wf = true) (w : World) : Calls Try.prog 6 #[.int .u8 a, .int .u8 b] w fun e w' => e = .returned (.bool true) ∧ Below w.heap.size w w' := by
  obtain ⟨a1, a2⟩ := bounds_u8 w0
  obtain ⟨b1, b2⟩ := bounds_u8 w1
  go_enter Try.func6, Try.ntmps6
  go_wp2_with fail
  refine (known_any w).mono ?_
  rintro e1 w1 ⟨rfl, hb1⟩
  have B1 := Aside0.mk hb1
  clear hb1
  go_wp2_with fail
  obtain ⟨x, hx⟩ : ∃ x : Nat, a % 4 = x := ⟨(a % 4).toNat, by omega⟩
  obtain ⟨y, hy⟩ : ∃ y : Nat, b % 4 = y := ⟨(b % 4).toNat, by omega⟩
  rw [hx, hy]
  have hx4 : x < 4 := by omega
  have hy4 : y < 4 := by omega
  clear hx hy a1 a2 b1 b2 w0
  have HL := Lib.hid (accL x hx4 y hy4)
  go_loopw [5, 8] (fun s5 s8 wr => ∃ kk : Nat, kk ≤ x ∧ s8 = .int .i64 kk ∧ Aside0 (OwnIn w1.heap.size wr s5 (List.replicate kk ⟨3, 0⟩)) ∧ Aside0 (Below w1.heap.size w1 wr)) (fun _ s8 _ => x - (intOf s8).toNat)
  case atStart => exact ⟨0, Nat.zero_le _, rfl, ⟨⟨rfl, .inl ⟨rfl, rfl⟩⟩⟩, ⟨Below.refl _ _⟩⟩
  case round =>
    obtain ⟨kk, hk, rfl, HO, BW⟩ := hrel
    by_cases hlt : kk < x
    · have hltz : (kk : Int) < (x : Int) := by omega
      obtain ⟨v1, w2, E1, h2, h3⟩ := app_one 3 HO.out BW.out.size (by simp; omega)
      have H2 := Aside0.mk h2
      have B2 := Aside0.mk (BW.out.trans h3)
      have HLT := Lib.hid hlt
      clear h2 h3 hlt
      go_wp2_with (at_builtin; refine wpList_append_E rfl _ _ _ rfl rfl rfl E1 ?_)
      clear E1
      go_wp2
      go_roundw
      case rel => exact ⟨kk + 1, HLT.out, by go_num, by rw [List.replicate_succ']; exact H2, B2⟩
      case measure => have := HLT.out; simp [intOf]; omega
    · have hltz : ¬ (kk : Int) < (x : Int) := by omega
      have hkx : kk = x := by omega
      subst hkx
      have HO2 := HO
      have BW2 := BW
      clear HO BW hk hlt
      go_wp2_with fail
      obtain ⟨wo, hwo⟩ : ∃ wo : World, wo = wr := ⟨_, rfl⟩
      rw [← hwo] at HO2 BW2
      go_loopw [5, 9] (fun s5 s9 wr => ∃ jj : Nat, jj ≤ y ∧ s9 = .int .i64 jj ∧ Aside0 (OwnIn w1.heap.size wr s5 (List.replicate kk ⟨3, 0⟩ ++ List.replicate jj ⟨6, 0⟩)) ∧ Aside0 (Below w1.heap.size w1 wr)) (fun _ s9 _ => y - (intOf s9).toNat)
      case atStart => exact ⟨0, Nat.zero_le _, rfl, by rw [List.replicate_zero, List.append_nil, ← hwo]; exact HO2, by rw [← hwo]; exact BW2⟩
      case round =>
        clear hwo HO2 BW2
        obtain ⟨jj, hj, rfl, HO, BW⟩ := hrel
        by_cases hlt : jj < y
        · have hltz : (jj : Int) < (y : Int) := by omega
          obtain ⟨v1, w2, E1, h2, h3⟩ := app_one 6 HO.out BW.out.size (by simp; omega)
          have H2 := Aside0.mk h2
          have B2 := Aside0.mk (BW.out.trans h3)
          have HLT := Lib.hid hlt
          clear h2 h3 hlt
          go_wp2_with (at_builtin; refine wpList_append_E rfl _ _ _ rfl rfl rfl E1 ?_)
          clear E1
          go_wp2
          go_roundw
          case rel => exact ⟨jj + 1, HLT.out, by go_num, by rw [List.replicate_succ', ← List.append_assoc]; exact H2, B2⟩
          case measure => have := HLT.out; simp [intOf]; omega
        · have hltz : ¬ (jj : Int) < (y : Int) := by omega
          have hjy : jj = y := by omega
          subst hjy
          obtain ⟨v1, w2, E1, h2, h3⟩ := app_one 22 HO.out BW.out.size (by simp; omega)
          have AC := Aside0.mk (accepted_is (code := codeL kk jj) (pool := []) HL.out h2 (u := .slice none 0 0) (P := none) (d := 0) rfl (Nat.le_refl _) (row_none _ _))
          have B2 := Aside0.mk (bthen B1.out (BW.out.trans h3))
          clear h2 h3 hlt hj HO BW
          go_wp2_with (at_builtin; refine wpList_append_E rfl _ _ _ rfl rfl rfl E1 ?_)
          refine AC.out.mono ?_
          rintro e3 w3 ⟨rfl, hb3⟩
          have B3 := Aside0.mk (bthen B2.out hb3)
          clear E1 hb3
          go_wp2
          go_ret
          refine ⟨?_, B3.out⟩
          have hfin : (decide (kk = jj) == ((kk : Int) == (jj : Int))) = true := by
            by_cases h : kk = jj
            · subst h; simp
            · have h2 : ¬ (kk : Int) = (jj : Int) := by omega
              rw [decide_eq_false h]
              simp [h2]
          exact congrArg (fun q => Ending.returned (Value.bool q)) hfin
end Go.Proofs.Ytpdjkclacbgneaa
